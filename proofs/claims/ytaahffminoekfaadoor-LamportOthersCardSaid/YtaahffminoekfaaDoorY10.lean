/-
  The law 'WotsSigns', walked.
-/
import Derived.Test.YtaahffminoekfaaDoorY9
namespace Go.Proofs.YtaahffminoekfaaDoor
open Go.RowKit
theorem gives_differ {o : Oper} {ρ : Operand → Value} {w : World} {Φ : Value → World → Prop} {x y : Operand} {a b : List Int} (ho : o.op = .binOp .neq 25 x y 25) (hx : ρ x = hashV a) (hy : ρ y = hashV b) (la : a.length = 32) (lb : b.length = 32) (k : Φ (.bool (!(a == b))) w) : Gives Tryd.prog o ρ w Φ := by
  refine Gives.value (v := .bool (!(a == b))) (w' := w) ?_ k
  have h1 := neq25 a b la lb w
  have h2 := guard25 .neq x y a b w
  simp [execOp, ho, hx, hy, h1, h2]
set_option maxRecDepth 100000 in
set_option maxHeartbeats 4000000 in
theorem wotsSigns_any (h : List Int) (a : Int) (m : List Int) (w : World) (hl : h.length = 32) (hb : Bytes h) (ha : I64 a) (hlm : m.length = 32) (hbm : Bytes m) (hla : Laid w) :
    Calls Tryd.prog 18 #[hashV h, .int .i64 a, hashV m] w (TruePost w) := by
  have hl2 := hla.lt
  obtain ⟨cx, hcx, hux, _, _, hsz, hs32⟩ := hash_parts h hl
  obtain ⟨cm, hcm, hum, _, _, hszm, _⟩ := hash_parts m hlm
  obtain ⟨W0, hW0⟩ : ∃ W0, W0 = (w.alloc (.cells cx 25)).alloc (.cells cm 25) := ⟨_, rfl⟩
  have HM0 : Hid (W0.heap[w.heap.size + 1]? = some (.cells cm 25 (0, 0))) := Lib.hid (by
    rw [hW0]; have := heap_alloc_last (w.alloc (.cells cx 25)) (.cells cm 25); rwa [World.size_alloc] at this)
  have HX0 : Hid (W0.heap[w.heap.size]? = some (.cells cx 25 (0, 0))) := Lib.hid (by rw [hW0]; exact (Below.heap_alloc _ _ _ (by simp)).trans (heap_alloc_last _ _))
  have HU0 : Hid (Up w W0) := Lib.hid (by rw [hW0]; exact ((Chg.refl _ w).alloc _).alloc _)
  have hwz0 : w.heap.size + 1 < W0.heap.size := (Array.getElem?_eq_some_iff.1 HM0.out).1
  have hkey := key_any h a W0 hl hb ha (hla.up HU0.out)
  have hsgn := fun W hla => sign_any h a m W hl hb ha hlm hbm hla
  have hdl := refDigits_any m hlm hbm
  have hrec := fun v sg W hs hla => recover_any m v sg W hlm hbm hs hla
  rw [hcx] at hkey
  rw [hcm] at hdl hrec
  rw [hcx, hcm] at hsgn ⊢
  have HKEY := Lib.hid hkey
  have HSGN := Lib.hid hsgn
  have HDL := Lib.hid hdl
  have HREC := Lib.hid hrec
  have HWL := Lib.hid hW0
  have HCX := Lib.hid hcx
  have HCM := Lib.hid hcm
  have HSM := Lib.hid hszm
  have HSX := Lib.hid hsz
  have HB := Lib.hid hb
  have HL := Lib.hid hl
  have HA := Lib.hid ha
  have HBM := Lib.hid hbm
  have HLA := Lib.hid hla
  have ha1 := ha.1
  have ha2 := ha.2
  clear hcx hux hl hb hla hsz hs32 hW0 ha hcm hum hszm hlm hbm hkey hsgn hdl hrec
  by_cases hin : inRange a
  case neg =>
    have HIN := Lib.hid hin
    obtain ⟨cz, hcz, hzu, hone, _, hszz, hso⟩ := hash_parts zeroH zero_len
    have q1 : ∀ W : World, (binOp .eql 25 (.agg cz) (.agg #[.int .u8 0, .int .u8 0, .int .u8 0, .int .u8 0, .int .u8 0, .int .u8 0, .int .u8 0, .int .u8 0, .int .u8 0, .int .u8 0, .int .u8 0, .int .u8 0, .int .u8 0, .int .u8 0, .int .u8 0, .int .u8 0, .int .u8 0, .int .u8 0, .int .u8 0, .int .u8 0, .int .u8 0, .int .u8 0, .int .u8 0, .int .u8 0, .int .u8 0, .int .u8 0, .int .u8 0, .int .u8 0, .int .u8 0, .int .u8 0, .int .u8 0, .int .u8 0])).run Tryd.prog W = .ok (.bool true) W := fun W => by
      have h := eql25 zeroH zeroH zero_len zero_len W
      rw [show (zeroH == zeroH) = true by simp] at h
      rw [zero_agg, ← hcz]; exact h
    have q2 : ∀ (op : BinOp) (a b : Operand) (W : World), (eqGuard op 25 a b (.agg cz) (.agg #[.int .u8 0, .int .u8 0, .int .u8 0, .int .u8 0, .int .u8 0, .int .u8 0, .int .u8 0, .int .u8 0, .int .u8 0, .int .u8 0, .int .u8 0, .int .u8 0, .int .u8 0, .int .u8 0, .int .u8 0, .int .u8 0, .int .u8 0, .int .u8 0, .int .u8 0, .int .u8 0, .int .u8 0, .int .u8 0, .int .u8 0, .int .u8 0, .int .u8 0, .int .u8 0, .int .u8 0, .int .u8 0, .int .u8 0, .int .u8 0, .int .u8 0, .int .u8 0])).run Tryd.prog W = .ok () W := fun op a b W => by
      rw [zero_agg, ← hcz]; exact guard25 op a b zeroH zeroH W
    have HCZ := Lib.hid hcz
    have HO := Lib.hid hso
    have HON := Lib.hid hone
    have HSZ := Lib.hid hszz
    clear hcz hzu hone hszz hso hin
    go_enter Tryd.func18, Tryd.ntmps18
    go_wp2_with (refine wpList_load_row rfl 25 (.tmp 3) rfl w.heap.size (by rfl) 25 cx (0, 0) _ (by rw [← HWL.out]; exact HX0.out) Tryd.underlying25 rfl HSX.out ?_)
    rw [← HWL.out]
    refine HKEY.out.mono ?_
    rintro e V1 ⟨hb1, hcase⟩
    obtain ⟨_, rfl⟩ := hcase.resolve_left (fun hc => HIN.out hc.1)
    rw [HCZ.out]
    have HX1 := Lib.hid ((up_below hb1).heap HX0.out (fun h => h))
    have HM1 := Lib.hid ((up_below hb1).heap HM0.out (fun h => h))
    have HU1 := Lib.hid (HU0.out.trans (up_below hb1))
    have hz1 := hb1.size
    clear hb1 hcase HX0 HM0 HU0 HWL HKEY
    go_wp2_with (first
      | refine wpList_store_row rfl 25 (.tmp 7) (.tmp 21) rfl V1.heap.size cz (by rfl) (by rfl) 25 _ (heap_alloc_last V1 _) HSZ.out (by rw [HO.out]; rfl) HON.out ?_
      | refine wpList_load_row rfl 25 (.tmp 3) rfl w.heap.size (by rfl) 25 cx (0, 0) _ ((setRow_other _ _ _ _ (by omega)).trans ((Below.heap_alloc _ _ _ (by omega)).trans HX1.out)) Tryd.underlying25 rfl HSX.out ?_
      | refine wpList_load_row rfl 25 (.tmp 5) rfl (w.heap.size + 1) (by rfl) 25 cm (0, 0) _ ((setRow_other _ _ _ _ (by omega)).trans ((Below.heap_alloc _ _ _ (by omega)).trans HM1.out)) Tryd.underlying25 rfl HSM.out ?_)
    obtain ⟨B7, hB7⟩ : ∃ B7, B7 = V1.heap.size := ⟨_, rfl⟩
    obtain ⟨V2, hV2⟩ : ∃ V2, V2 = (V1.alloc (.cells (#[.int .u8 0, .int .u8 0, .int .u8 0, .int .u8 0, .int .u8 0, .int .u8 0, .int .u8 0, .int .u8 0, .int .u8 0, .int .u8 0, .int .u8 0, .int .u8 0, .int .u8 0, .int .u8 0, .int .u8 0, .int .u8 0, .int .u8 0, .int .u8 0, .int .u8 0, .int .u8 0, .int .u8 0, .int .u8 0, .int .u8 0, .int .u8 0, .int .u8 0, .int .u8 0, .int .u8 0, .int .u8 0, .int .u8 0, .int .u8 0, .int .u8 0, .int .u8 0]) 25)).setRow V1.heap.size cz := ⟨_, rfl⟩
    rw [← hV2, ← hB7]
    have hs7 : V2.heap[B7]? = some (.cells cz 25 (0, 0)) := by rw [hV2, hB7]; exact setRow_same _ _ cz _ 25 (0, 0) (heap_alloc_last V1 _)
    have hu2 : Up w V2 := by rw [hV2]; exact (HU1.out.alloc _).setRow _ (.inr HU1.out.size) cz
    have HS7 := Lib.hid hs7
    have HU2 := Lib.hid hu2
    clear hs7 hu2 hV2 hB7 HX1 HM1 HU1 hz1
    refine (HSGN.out _ (HLA.out.up HU2.out)).mono ?_
    rintro e V3 ⟨hb3, hcase⟩
    obtain ⟨_, rfl⟩ := hcase.resolve_left (fun hc => HIN.out hc.1)
    have HS73 := Lib.hid ((up_below hb3).heap HS7.out (fun h => h))
    have HU3 := Lib.hid (HU2.out.trans (up_below hb3))
    have HAW := Lib.hid (awake4_any V3 (HLA.out.up HU3.out))
    have hout : a < 0 ∨ 2147483647 < a := by have := HIN.out; unfold inRange at this; omega
    clear hb3 hcase HS7 HU2 HSGN HIN HREC HDL
    rcases Int.lt_or_le a 0 with hneg | hpos
    · go_wp2_with (first
        | refine wpList_load_row_g (by rfl) 25 (.tmp 7) rfl B7 (by rfl) 25 cz (0, 0) _ HS73.out Tryd.underlying25 rfl HSZ.out ?_
        | (go_at_call 46; refine HAW.out.mono ?_; rintro e w' ⟨rfl, hb⟩))
      go_ret
      exact ⟨rfl, (HU3.out.trans (up_below hb)).below_none (fun _ _ h => h)⟩
    · have hbig : 2147483647 < a := by omega
      go_wp2_with (first
        | refine wpList_load_row_g (by rfl) 25 (.tmp 7) rfl B7 (by rfl) 25 cz (0, 0) _ HS73.out Tryd.underlying25 rfl HSZ.out ?_
        | (go_at_call 46; refine HAW.out.mono ?_; rintro e w' ⟨rfl, hb⟩))
      go_ret
      exact ⟨rfl, (HU3.out.trans (up_below hb)).below_none (fun _ _ h => h)⟩
  case pos =>
    have HIN := Lib.hid hin
    have hr0 : 0 ≤ a := hin.1
    have hr1 : a ≤ 2147483647 := hin.2
    obtain ⟨x, hx⟩ : ∃ x, shaI (4 :: (pubI h a 67).flatten) = x := ⟨_, rfl⟩
    have hxl : x.length = 32 := by rw [← hx]; exact hash_size _
    obtain ⟨hc, hhc, _, hone, _, hsz, hso⟩ := hash_parts x hxl
    have hx2 : shaI (4 :: (recI m (sigI h a m 67) 67).flatten) = x := by rw [rec_sig h a m HBM.out 67 (by omega)]; exact hx
    have HPX := Lib.hid hx
    have HXX := Lib.hid hx2
    have HXL := Lib.hid hxl
    have HHC := Lib.hid hhc
    have HO := Lib.hid hso
    have HON := Lib.hid hone
    have HSZ := Lib.hid hsz
    clear hx hx2 hxl hhc hone hsz hso hin
    go_enter Tryd.func18, Tryd.ntmps18
    go_wp2_with (refine wpList_load_row rfl 25 (.tmp 3) rfl w.heap.size (by rfl) 25 cx (0, 0) _ (by rw [← HWL.out]; exact HX0.out) Tryd.underlying25 rfl HSX.out ?_)
    rw [← HWL.out]
    refine HKEY.out.mono ?_
    rintro e V1 ⟨hb1, hcase⟩
    obtain ⟨_, rfl⟩ := hcase.resolve_right (fun hc => hc.1 HIN.out)
    rw [HPX.out, HHC.out]
    have HX1 := Lib.hid ((up_below hb1).heap HX0.out (fun h => h))
    have HM1 := Lib.hid ((up_below hb1).heap HM0.out (fun h => h))
    have HU1 := Lib.hid (HU0.out.trans (up_below hb1))
    have hz1 := hb1.size
    clear hb1 hcase HX0 HM0 HU0 HWL HKEY
    go_wp2_with (first
      | refine wpList_store_row rfl 25 (.tmp 7) (.tmp 21) rfl V1.heap.size hc (by rfl) (by rfl) 25 _ (heap_alloc_last V1 _) HSZ.out (by rw [HO.out]; rfl) HON.out ?_
      | refine wpList_load_row rfl 25 (.tmp 3) rfl w.heap.size (by rfl) 25 cx (0, 0) _ ((setRow_other _ _ _ _ (by omega)).trans ((Below.heap_alloc _ _ _ (by omega)).trans HX1.out)) Tryd.underlying25 rfl HSX.out ?_
      | refine wpList_load_row rfl 25 (.tmp 5) rfl (w.heap.size + 1) (by rfl) 25 cm (0, 0) _ ((setRow_other _ _ _ _ (by omega)).trans ((Below.heap_alloc _ _ _ (by omega)).trans HM1.out)) Tryd.underlying25 rfl HSM.out ?_)
    obtain ⟨B7, hB7⟩ : ∃ B7, B7 = V1.heap.size := ⟨_, rfl⟩
    obtain ⟨V2, hV2⟩ : ∃ V2, V2 = (V1.alloc (.cells (#[.int .u8 0, .int .u8 0, .int .u8 0, .int .u8 0, .int .u8 0, .int .u8 0, .int .u8 0, .int .u8 0, .int .u8 0, .int .u8 0, .int .u8 0, .int .u8 0, .int .u8 0, .int .u8 0, .int .u8 0, .int .u8 0, .int .u8 0, .int .u8 0, .int .u8 0, .int .u8 0, .int .u8 0, .int .u8 0, .int .u8 0, .int .u8 0, .int .u8 0, .int .u8 0, .int .u8 0, .int .u8 0, .int .u8 0, .int .u8 0, .int .u8 0, .int .u8 0]) 25)).setRow V1.heap.size hc := ⟨_, rfl⟩
    rw [← hV2, ← hB7]
    have hs7 : V2.heap[B7]? = some (.cells hc 25 (0, 0)) := by rw [hV2, hB7]; exact setRow_same _ _ hc _ 25 (0, 0) (heap_alloc_last V1 _)
    have hu2 : Up w V2 := by rw [hV2]; exact (HU1.out.alloc _).setRow _ (.inr HU1.out.size) hc
    have hx2 : V2.heap[w.heap.size]? = some (.cells cx 25 (0, 0)) := by rw [hV2]; exact ((setRow_other _ _ _ _ (by omega)).trans ((Below.heap_alloc _ _ _ (by omega)).trans HX1.out))
    have hm2 : V2.heap[w.heap.size + 1]? = some (.cells cm 25 (0, 0)) := by rw [hV2]; exact ((setRow_other _ _ _ _ (by omega)).trans ((Below.heap_alloc _ _ _ (by omega)).trans HM1.out))
    have HS7a := Lib.hid hs7
    have HX2 := Lib.hid hx2
    have HM2 := Lib.hid hm2
    have HU2 := Lib.hid hu2
    clear hs7 hu2 hx2 hm2 hV2 hB7 HX1 HM1 HU1 hz1
    refine (HSGN.out _ (HLA.out.up HU2.out)).mono ?_
    rintro e V3 ⟨hb3, hcase⟩
    obtain ⟨_, Bs, cg, rfl, hown⟩ := hcase.resolve_right (fun hc => hc.1 HIN.out)
    have hu3 := up_below hb3
    have hslg : SlH V3 (.slice Bs 67 cg) (sigI h a m 67) := by
      have h2 := own_slh (w := V3) (base := V2.heap.size) (c := cg) (B := Bs) (hs := sigI h a m 67) (by rw [sigI_len]; exact hown) (by rw [sigI_len]; exact sigI_each h a m 67)
      rwa [sigI_len] at h2
    obtain ⟨g, hBs, hcg1, hcg2⟩ : ∃ g, Bs = some ⟨g, 0, none⟩ ∧ 67 ≤ cg ∧ cg ≤ maxLen := by
      rcases hown.2 with ⟨_, h0⟩ | ⟨g, cap, cur, he, _, _, h1, h2, _⟩
      · omega
      · injection he with h3 h4 h5
        subst h5
        exact ⟨g, h3, h1, h2⟩
    subst hBs
    have hcg3 : cg ≤ 9223372036854775807 := by unfold maxLen at hcg2; omega
    have HSG := Lib.hid hslg
    have HS7b := Lib.hid (hu3.heap HS7a.out (fun h => h))
    have HX3 := Lib.hid (hu3.heap HX2.out (fun h => h))
    have HM3 := Lib.hid (hu3.heap HM2.out (fun h => h))
    have HU3 := Lib.hid (HU2.out.trans hu3)
    clear hb3 hcase hown hslg hu3 HS7a HX2 HM2 HU2 HSGN hcg2
    go_wp2_with (refine wpList_load_row rfl 25 (.tmp 5) rfl (w.heap.size + 1) (by rfl) 25 cm (0, 0) _ HM3.out Tryd.underlying25 rfl HSM.out ?_)
    refine (HDL.out V3).mono ?_
    rintro e W1 ⟨v, rfl, hod, hbd⟩
    obtain ⟨gd, cd, rfl, hd1, hd2, hcd⟩ := DigV.of hod
    have hu1 : Up V3 W1 := up_below hbd
    have HS7c := Lib.hid (hu1.heap HS7b.out (fun h => h))
    have HX4 := Lib.hid (hu1.heap HX3.out (fun h => h))
    have HM4 := Lib.hid (hu1.heap HM3.out (fun h => h))
    have HSG4 := Lib.hid (HSG.out.up hu1)
    have HU4 := Lib.hid (HU3.out.trans hu1)
    have HLA1 := Lib.hid (HLA.out.up (HU3.out.trans hu1))
    have HD1 := Lib.hid hcd
    have hz4 := hu1.size
    have hz5 : w.heap.size + 1 < W1.heap.size := (Array.getElem?_eq_some_iff.1 HM4.out).1
    clear hod hbd hcd hu1 HS7b HX3 HM3 HSG HU3 HDL HLA
    go_wp2_with fail
    go_loopw [11, 69] (fun o i wr => ∃ (k c : Nat) (B : Option Addr), k ≤ 67 ∧ i = .int .i64 k ∧ o = .slice B k c ∧ wr.ownsRow W1.heap.size 25 32 (.slice B k c) k (u8s (recI m (sigI h a m 67) k).flatten) ∧ Up W1 wr) (fun _ i _ => 67 - (intOf i).toNat)
    case atStart => exact ⟨0, 0, none, by omega, rfl, rfl, World.ownsRow_nil _ _ _ _, Chg.refl _ _⟩
    case round =>
      rename World => wo
      obtain ⟨k, c, B, hk, rfl, rfl, ho, hu⟩ := hrel
      by_cases hk2 : (k : Int) < 67
      · have hsec := secret2_any h a k wo HL.out HB.out HA.out ⟨by omega, by omega⟩ (HLA1.out.up hu)
        have hrs := recI_succ m (sigI h a m 67) k
        have hat := sigI_at h a m 67 k (by omega)
        have hrow := (HSG4.out.up hu).row k (by rw [sigI_len]; omega)
        have c1 := hu.cell (HD1.out k (by omega)) (fun h => h)
        have bd := digit_bd m HBM.out k (by omega)
        obtain ⟨d, hd⟩ : ∃ d, (digitsI m).getD k 0 = d := ⟨_, rfl⟩
        rw [hd] at c1 bd hrs hat
        have bd0 := bd.1
        have bd1 := bd.2
        have hxs := secI_len h a k
        have hxb := secI_bytes h a k
        obtain ⟨s, hs⟩ : ∃ s, secI h a k = s := ⟨_, rfl⟩
        rw [hs] at hsec hxs hxb hat
        obtain ⟨cs, hcs, _, _, _, _, _⟩ := hash_parts s hxs
        unfold HashPost at hsec
        rw [hcs, HCX.out] at hsec
        have hyl := walkI_len s k 0 d.toNat hxs
        have hyb := walkI_bytes s k 0 d.toNat hxb
        obtain ⟨y, hy⟩ : ∃ y, walkI s k 0 d.toNat = y := ⟨_, rfl⟩
        rw [hy] at hyl hyb hat
        rw [hat] at hrow hrs
        obtain ⟨cy, hcy, huy, hyone, _, hysz, hyso⟩ := hash_parts y hyl
        have hzl := walkI_len y k d (15 - d).toNat hyl
        obtain ⟨z, hz⟩ : ∃ z, walkI y k d (15 - d).toNat = z := ⟨_, rfl⟩
        rw [hz] at hzl hrs
        obtain ⟨cz, hcz, huz, _, _, _, _⟩ := hash_parts z hzl
        have HSEC := Lib.hid hsec
        have HXR := Lib.hid (hu.heap HX4.out (fun h => h))
        have HXS := Lib.hid hxs
        have HXB := Lib.hid hxb
        have HCS := Lib.hid hcs
        have HCY := Lib.hid hcy
        have HYY := Lib.hid hy
        have HYL := Lib.hid hyl
        have HYB := Lib.hid hyb
        have HSY := Lib.hid hysz
        have HYO := Lib.hid hyone
        have HYS := Lib.hid hyso
        have HZZ := Lib.hid hz
        have HZL := Lib.hid hzl
        have HCZ := Lib.hid hcz
        have HUZ := Lib.hid huz
        have HRS := Lib.hid hrs
        have HROW := Lib.hid hrow
        have HOW := Lib.hid ho
        have HU := Lib.hid hu
        have huz := hu.size
        clear hsec hxs hxb hs hcs hy hyl hyb hcy huy hyone hysz hyso hz hzl hcz hrs hrow hat ho hu hd bd
        go_wp2_with (refine wpList_load_row rfl 25 (.tmp 3) rfl w.heap.size (by rfl) 25 cx (0, 0) _ HXR.out Tryd.underlying25 rfl HSX.out ?_)
        refine HSEC.out.mono ?_
        rintro e W2 ⟨rfl, hb2⟩
        have hu2 : Up wo W2 := up_below hb2
        have hcall := walked_any s k 0 d W2 HXS.out HXB.out ⟨by omega, by omega⟩ ⟨by omega, by omega⟩ ⟨by omega, by omega⟩ (HLA1.out.up (HU.out.trans hu2))
        unfold HashPost at hcall
        rw [HCS.out, show ((d : Int) - 0).toNat = d.toNat by rw [Int.sub_zero], HYY.out, HCY.out] at hcall
        have HCALL := Lib.hid hcall
        clear hcall hb2 HSEC
        go_wp2_with fail
        refine HCALL.out.mono ?_
        rintro e W3 ⟨rfl, hb3⟩
        have HU3 := Lib.hid (hu2.trans (up_below hb3))
        clear hb3 hu2 HCALL
        go_wp2_with (refine wpList_store_row rfl 25 (.tmp 14) (.tmp 80) rfl W3.heap.size cy (by rfl) (by rfl) 25 _ (heap_alloc_last W3 _) HSY.out (by rw [HYS.out]; rfl) HYO.out ?_)
        obtain ⟨B4, hB4⟩ : ∃ B4, B4 = W3.heap.size := ⟨_, rfl⟩
        obtain ⟨W4, hW4⟩ : ∃ W4, W4 = (W3.alloc (.cells (#[.int .u8 0, .int .u8 0, .int .u8 0, .int .u8 0, .int .u8 0, .int .u8 0, .int .u8 0, .int .u8 0, .int .u8 0, .int .u8 0, .int .u8 0, .int .u8 0, .int .u8 0, .int .u8 0, .int .u8 0, .int .u8 0, .int .u8 0, .int .u8 0, .int .u8 0, .int .u8 0, .int .u8 0, .int .u8 0, .int .u8 0, .int .u8 0, .int .u8 0, .int .u8 0, .int .u8 0, .int .u8 0, .int .u8 0, .int .u8 0, .int .u8 0, .int .u8 0]) 25)).setRow W3.heap.size cy := ⟨_, rfl⟩
        rw [← hW4, ← hB4]
        have hy4 : W4.drew.heap[B4]? = some (.cells cy 25 (0, 0)) := by rw [hW4, hB4]; exact setRow_same _ _ cy _ 25 (0, 0) (heap_alloc_last W3 _)
        have hu4 : Up wo W4.drew := by rw [hW4]; exact ((HU3.out.alloc _).setRow _ (.inr HU3.out.size) cy).drew
        have hrg4 : W4.drew.rangeAt g (k * 32) (u8s y) := fun j v hv => by
          have := (SlB.up HROW.out hu4).at_ j (by rw [← u8s_len]; exact (List.getElem?_eq_some_iff.1 hv).1)
          rw [u8s_at (by rw [← u8s_len]; exact (List.getElem?_eq_some_iff.1 hv).1)] at hv
          cases hv
          rwa [Nat.zero_add, Nat.mul_comm] at this
        have HY4 := Lib.hid hy4
        have HUo := Lib.hid hu4
        have HRG4 := Lib.hid hrg4
        clear hy4 hu4 hrg4 hW4 hB4 HU3 HXR HROW
        refine region_mono Up [fun v _ => v = .slice (some ⟨g, 0, none⟩) 67 cg,
            fun v _ => v = .int .i64 k,
            fun v _ => v = .pointer (some ⟨g, k * 32, none⟩),
            fun v _ => v = hashV y,
            fun v _ => v = hashV y,
            fun v _ => v = .bool false] (by kernel_rfl) (by kernel_rfl) (Chg.refl _) (fun _ _ _ => Chg.trans) (by simp) ?_ ?_ ?_
        · simp only [List.forall_mem_cons]
          exact ⟨fun _ _ _ _ _ h => h, fun _ _ _ _ _ h => h, fun _ _ _ _ _ h => h, fun _ _ _ _ _ h => h, fun _ _ _ _ _ h => h, fun _ _ _ _ _ h => h, by simp⟩
        · refine ⟨?_, ?_, ?_, ?_, ?_, ?_, trivial⟩
          · intro ρ w1 hw h0 hc hg hf hd
            have s9 : ρ (.tmp 9) = .slice (some ⟨g, 0, none⟩) 67 cg := h0 9 (by kernel_rfl)
            refine ⟨fun _ => ?_, fun h => by cases h⟩
            clear h0 hg hd
            exact gives_move rfl ⟨Chg.refl _ _, s9⟩
          · intro ρ w1 hw h0 hc hg hf hd
            have s12 : ρ (.tmp 12) = .int .i64 k := h0 12 (by kernel_rfl)
            refine ⟨fun _ => ?_, fun h => by cases h⟩
            clear h0 hg hd
            exact gives_move rfl ⟨Chg.refl _ _, s12⟩
          · intro ρ w1 hw h0 hc hg hf hd
            have d0 := hd ⟨0, .data⟩ (by simp) rfl _ _ _ rfl rfl rfl
            have d1 := hd ⟨1, .data⟩ (by simp) rfl _ _ _ rfl rfl rfl
            refine ⟨fun _ => ?_, fun h => by cases h⟩
            clear h0 hg hd
            clear hf
            refine Gives.value (w' := w1) ?_ ⟨Chg.refl _ _, rfl⟩
            go_simp
          · intro ρ w1 hw h0 hc hg hf hd
            have d2 := hd ⟨2, .data⟩ (by simp) rfl _ _ _ rfl rfl rfl
            refine ⟨fun _ => ?_, fun h => by cases h⟩
            clear h0 hg hd
            exact gives_hash rfl d2 HYL.out (Rng.up HRG4.out hw) ⟨Chg.refl _ _, rfl⟩
          · intro ρ w1 hw h0 hc hg hf hd
            have s14 : ρ (.tmp 14) = .pointer (some ⟨B4, 0, none⟩) := h0 14 (by kernel_rfl)
            refine ⟨fun _ => ?_, fun h => by cases h⟩
            clear h0 hg hd
            rw [HCY.out]
            exact gives_load_row rfl s14 (hw.heap HY4.out (fun h => h)) Tryd.underlying25 rfl HSY.out ⟨Chg.refl _ _, rfl⟩
          · intro ρ w1 hw h0 hc hg hf hd
            have d3 := hd ⟨3, .data⟩ (by simp) rfl _ _ _ rfl rfl rfl
            have d4 := hd ⟨4, .data⟩ (by simp) rfl _ _ _ rfl rfl rfl
            refine ⟨fun _ => ?_, fun h => by cases h⟩
            clear h0 hg hd
            exact gives_differ rfl d3 d4 HYL.out HYL.out ⟨Chg.refl _ _, by simp⟩
        · intro vs w5 hw hr
          have h5 := hr 5 _ rfl
          clear hr
          dsimp only [putsL, restL]
          simp only [Act.put, List.setIfInBounds_toArray, List.set_cons_zero, List.set_cons_succ]
          rw [h5]
          have hu5 := HUo.out.trans hw
          have HY5 := Lib.hid (hw.heap HY4.out (fun h => h))
          clear hw h5 HY4 HRG4 HUo
          have hcall := walked_any y k d 15 w5 HYL.out HYB.out ⟨by omega, by omega⟩ ⟨by omega, by omega⟩ ⟨by omega, by omega⟩ (HLA1.out.up (HU.out.trans hu5))
          unfold HashPost at hcall
          rw [HCY.out, HZZ.out, HCZ.out] at hcall
          have HCALL := Lib.hid hcall
          have HU5 := Lib.hid hu5
          clear hcall hu5
          go_wp2_with (refine wpList_load_row rfl 25 (.tmp 14) rfl B4 (by rfl) 25 cy (0, 0) _ HY5.out Tryd.underlying25 rfl HSY.out ?_)
          refine HCALL.out.mono ?_
          rintro e W6 ⟨rfl, hb6⟩
          have hu6 := HU5.out.trans (up_below hb6)
          obtain ⟨A2, c2, w2, hrun, ho2, hc2⟩ := push_hash W6 W1.heap.size _ k (recI m (sigI h a m 67) k) (own_up HOW.out hu6) z cz HUZ.out HZL.out (by omega) (by have := hu6.size; omega)
          have HRUN := Lib.hid hrun
          have HO2 := Lib.hid ho2
          have HU2 := Lib.hid ((HU.out.trans hu6).then hc2 (fun i hi => .inr (by have := ((own_up HOW.out hu6).lt i hi).1; omega)))
          clear hb6 hu6 hrun ho2 hc2 HCALL HU5 HY5
          go_wp2_with (first
            | refine wpList_build_hash rfl (.tmp 91) rfl z cz HUZ.out HZL.out (by rfl) ?_
            | (at_builtin; refine wpList_run_append rfl _ _ 49 rfl _ _ rfl rfl 49 rfl HRUN.out ?_))
          go_roundw
          case rel =>
            refine ⟨k + 1, c2, A2, by omega, by go_num, rfl, ?_, HU2.out⟩
            rw [HRS.out]; exact HO2.out
          case measure => simp [intOf]; omega
      · obtain rfl : k = 67 := by omega
        have hslh : SlH wo (.slice B 67 c) (recI m (sigI h a m 67) 67) := by
          have h2 := own_slh (w := wo) (base := W1.heap.size) (c := c) (B := B) (hs := recI m (sigI h a m 67) 67) (by rw [recI_len]; exact ho) (by rw [recI_len]; exact recI_each m _ 67 (sigI_each h a m 67))
          rwa [recI_len] at h2
        have hrc := HREC.out _ _ wo (HSG4.out.up hu) (HLA1.out.up hu)
        have HRC := Lib.hid hrc
        have HSL := Lib.hid hslh
        have HM5 := Lib.hid (hu.heap HM4.out (fun h => h))
        have HS7d := Lib.hid (hu.heap HS7c.out (fun h => h))
        have HU5 := Lib.hid (HU4.out.trans hu)
        have HLA5 := Lib.hid (HLA1.out.up hu)
        clear hrc hslh ho hu HREC HSG4 HM4 HX4 HS7c HU4 HLA1 HD1
        go_wp2_with (refine wpList_load_row rfl 25 (.tmp 5) rfl (w.heap.size + 1) (by rfl) 25 cm (0, 0) _ HM5.out Tryd.underlying25 rfl HSM.out ?_)
        refine HRC.out.mono ?_
        rintro e V6 ⟨hb6, hcase⟩
        obtain ⟨_, rfl⟩ := hcase.resolve_right (fun hc => hc.1 (sigI_len h a m 67))
        rw [HXX.out, HHC.out]
        have hu6 := up_below hb6
        have HSL6 := Lib.hid (HSL.out.up hu6)
        have HS7e := Lib.hid (hu6.heap HS7d.out (fun h => h))
        have HU6 := Lib.hid (HU5.out.trans hu6)
        have HLA6a := Lib.hid (HLA5.out.up hu6)
        clear hb6 hcase hu6 HRC HSL HS7d HU5 HLA5 HM5
        go_wp2_with (refine wpList_store_row rfl 25 (.tmp 15) (.tmp 99) rfl V6.heap.size hc (by rfl) (by rfl) 25 _ (heap_alloc_last V6 _) HSZ.out (by rw [HO.out]; rfl) HON.out ?_)
        obtain ⟨B15, hB15⟩ : ∃ B15, B15 = V6.heap.size := ⟨_, rfl⟩
        obtain ⟨V7, hV7⟩ : ∃ V7, V7 = (V6.alloc (.cells (#[.int .u8 0, .int .u8 0, .int .u8 0, .int .u8 0, .int .u8 0, .int .u8 0, .int .u8 0, .int .u8 0, .int .u8 0, .int .u8 0, .int .u8 0, .int .u8 0, .int .u8 0, .int .u8 0, .int .u8 0, .int .u8 0, .int .u8 0, .int .u8 0, .int .u8 0, .int .u8 0, .int .u8 0, .int .u8 0, .int .u8 0, .int .u8 0, .int .u8 0, .int .u8 0, .int .u8 0, .int .u8 0, .int .u8 0, .int .u8 0, .int .u8 0, .int .u8 0]) 25)).setRow V6.heap.size hc := ⟨_, rfl⟩
        rw [← hV7, ← hB15]
        have hs15 : V7.drew.heap[B15]? = some (.cells hc 25 (0, 0)) := by rw [hV7, hB15]; exact setRow_same _ _ hc _ 25 (0, 0) (heap_alloc_last V6 _)
        have hu7 : Up V6 V7.drew := by rw [hV7]; exact (((Chg.refl _ V6).alloc _).setRow _ (.inr (Nat.le_refl _)) hc).drew
        have HS15 := Lib.hid hs15
        have HS7 := Lib.hid (hu7.heap HS7e.out (fun h => h))
        have HSLH := Lib.hid (HSL6.out.up hu7)
        have HLA6 := Lib.hid (HLA6a.out.up hu7)
        have HU7 := Lib.hid (HU6.out.trans hu7)
        clear hs15 hu7 hV7 hB15 HS7e HSL6 HLA6a HU6
        refine region_mono Up [fun v _ => v = .int .i64 0,
            fun v _ => v = .bool true,
            fun v _ => v = .bool true,
            fun v _ => v = hashV x,
            fun v _ => v = hashV x,
            fun v _ => v = .bool true,
            fun v _ => v = .bool true,
            fun v _ => v = .bool true,
            fun v _ => v = hashV x,
            fun v _ => v = .slice B 67 c,
            fun v _ => v = hashV x,
            fun v _ => v = .bool true,
            fun v _ => v = .bool true,
            fun v _ => v = .bool true,
            fun v _ => v = .bool true,
            fun v _ => v = .bool true] (by kernel_rfl) (by kernel_rfl) (Chg.refl _) (fun _ _ _ => Chg.trans) (by simp) ?_ ?_ ?_
        · simp only [List.forall_mem_cons]
          exact ⟨fun _ _ _ _ _ h => h, fun _ _ _ _ _ h => h, fun _ _ _ _ _ h => h, fun _ _ _ _ _ h => h, fun _ _ _ _ _ h => h, fun _ _ _ _ _ h => h, fun _ _ _ _ _ h => h, fun _ _ _ _ _ h => h, fun _ _ _ _ _ h => h, fun _ _ _ _ _ h => h, fun _ _ _ _ _ h => h, fun _ _ _ _ _ h => h, fun _ _ _ _ _ h => h, fun _ _ _ _ _ h => h, fun _ _ _ _ _ h => h, fun _ _ _ _ _ h => h, by simp⟩
        · refine ⟨?_, ?_, ?_, ?_, ?_, ?_, ?_, ?_, ?_, ?_, ?_, ?_, ?_, ?_, ?_, ?_, trivial⟩
          · intro ρ w1 hw h0 hc hg hf hd
            have s16 : ρ (.tmp 16) = .int .i64 0 := h0 16 (by kernel_rfl)
            refine ⟨fun _ => ?_, fun h => by cases h⟩
            clear h0 hg hd
            exact gives_move rfl ⟨Chg.refl _ _, s16⟩
          · intro ρ w1 hw h0 hc hg hf hd
            have d0 := hd ⟨0, .data⟩ (by simp) rfl _ _ _ rfl rfl rfl
            refine ⟨fun _ => ?_, fun h => by cases h⟩
            clear h0 hg hd
            clear hf
            refine Gives.value (w' := w1) ?_ ⟨Chg.refl _ _, rfl⟩
            go_simp
          · intro ρ w1 hw h0 hc hg hf hd
            have d1 := hd ⟨1, .data⟩ (by simp) rfl _ _ _ rfl rfl rfl
            refine ⟨fun _ => ?_, fun h => by cases h⟩
            clear h0 hg hd
            exact gives_move rfl ⟨Chg.refl _ _, d1⟩
          · intro ρ w1 hw h0 hc hg hf hd
            have d2 := hd ⟨2, .guard⟩ (by simp) rfl _ _ _ rfl rfl rfl
            have s15 : ρ (.tmp 15) = .pointer (some ⟨B15, 0, none⟩) := h0 15 (by kernel_rfl)
            refine ⟨fun _ => ?_, fun h => by rw [wantedBy_true rfl rfl rfl d2] at h; cases h⟩
            clear d2
            clear h0 hg hd
            clear hc hf
            rw [HHC.out]
            exact gives_load_row rfl s15 (hw.heap HS15.out (fun h => h)) Tryd.underlying25 rfl HSZ.out ⟨Chg.refl _ _, rfl⟩
          · intro ρ w1 hw h0 hc hg hf hd
            have d2 := hd ⟨2, .guard⟩ (by simp) rfl _ _ _ rfl rfl rfl
            have s7 : ρ (.tmp 7) = .pointer (some ⟨B7, 0, none⟩) := h0 7 (by kernel_rfl)
            refine ⟨fun _ => ?_, fun h => by rw [wantedBy_true rfl rfl rfl d2] at h; cases h⟩
            clear d2
            clear h0 hg hd
            clear hc hf
            rw [HHC.out]
            exact gives_load_row rfl s7 (hw.heap HS7.out (fun h => h)) Tryd.underlying25 rfl HSZ.out ⟨Chg.refl _ _, rfl⟩
          · intro ρ w1 hw h0 hc hg hf hd
            have d3 := hd ⟨3, .data⟩ (by simp) rfl _ _ _ rfl rfl rfl
            have d4 := hd ⟨4, .data⟩ (by simp) rfl _ _ _ rfl rfl rfl
            have d2 := hd ⟨2, .guard⟩ (by simp) rfl _ _ _ rfl rfl rfl
            refine ⟨fun _ => ?_, fun h => by rw [wantedBy_true rfl rfl rfl d2] at h; cases h⟩
            clear d2
            clear h0 hg hd
            exact gives_same rfl d3 d4 HXL.out ⟨Chg.refl _ _, rfl⟩
          · intro ρ w1 hw h0 hc hg hf hd
            have d2 := hd ⟨2, .data⟩ (by simp) rfl _ _ _ rfl rfl rfl
            have d5 := hd ⟨5, .data⟩ (by simp) rfl _ _ _ rfl rfl rfl
            refine ⟨fun _ => ?_, fun h => by cases h⟩
            clear h0 hg hd
            clear hf
            refine Gives.value (w' := w1) ?_ ⟨Chg.refl _ _, rfl⟩
            go_simp
          · intro ρ w1 hw h0 hc hg hf hd
            have d6 := hd ⟨6, .data⟩ (by simp) rfl _ _ _ rfl rfl rfl
            refine ⟨fun _ => ?_, fun h => by cases h⟩
            clear h0 hg hd
            exact gives_move rfl ⟨Chg.refl _ _, d6⟩
          · intro ρ w1 hw h0 hc hg hf hd
            have d7 := hd ⟨7, .guard⟩ (by simp) rfl _ _ _ rfl rfl rfl
            have s7 : ρ (.tmp 7) = .pointer (some ⟨B7, 0, none⟩) := h0 7 (by kernel_rfl)
            refine ⟨fun _ => ?_, fun h => by rw [wantedBy_true rfl rfl rfl d7] at h; cases h⟩
            clear d7
            clear h0 hg hd
            clear hc hf
            rw [HHC.out]
            exact gives_load_row rfl s7 (hw.heap HS7.out (fun h => h)) Tryd.underlying25 rfl HSZ.out ⟨Chg.refl _ _, rfl⟩
          · intro ρ w1 hw h0 hc hg hf hd
            have d7 := hd ⟨7, .guard⟩ (by simp) rfl _ _ _ rfl rfl rfl
            have s11 : ρ (.tmp 11) = .slice B 67 c := h0 11 (by kernel_rfl)
            refine ⟨fun _ => ?_, fun h => by rw [wantedBy_true rfl rfl rfl d7] at h; cases h⟩
            clear d7
            clear h0 hg hd
            exact gives_move rfl ⟨Chg.refl _ _, s11⟩
          · intro ρ w1 hw h0 hc hg hf hd
            have d9 := hd ⟨9, .data⟩ (by simp) rfl _ _ _ rfl rfl rfl
            have d7 := hd ⟨7, .chain⟩ (by simp) rfl _ _ _ rfl rfl rfl
            refine ⟨fun _ => ?_, fun h => by rw [wantedBy_true rfl rfl rfl d7] at h; cases h⟩
            clear d7
            clear h0 hg hd
            have hcl := public_any _ _ w1 (HSLH.out.up hw) (by rw [recI_len]; omega) (HLA6.out.up hw)
            unfold SumPost at hcl
            rw [HXX.out] at hcl
            refine gives_call rfl hf Tryd.func39 rfl (by kernel_rfl) (args := #[.slice B 67 c]) (by simp [hc, d9]) (hcl.mono ?_)
            rintro e w2 ⟨rfl, hb⟩
            exact ⟨_, rfl, up_below hb, rfl⟩
          · intro ρ w1 hw h0 hc hg hf hd
            have d8 := hd ⟨8, .data⟩ (by simp) rfl _ _ _ rfl rfl rfl
            have d10 := hd ⟨10, .data⟩ (by simp) rfl _ _ _ rfl rfl rfl
            have d7 := hd ⟨7, .guard⟩ (by simp) rfl _ _ _ rfl rfl rfl
            refine ⟨fun _ => ?_, fun h => by rw [wantedBy_true rfl rfl rfl d7] at h; cases h⟩
            clear d7
            clear h0 hg hd
            exact gives_same rfl d8 d10 HXL.out ⟨Chg.refl _ _, rfl⟩
          · intro ρ w1 hw h0 hc hg hf hd
            have d7 := hd ⟨7, .data⟩ (by simp) rfl _ _ _ rfl rfl rfl
            have d11 := hd ⟨11, .data⟩ (by simp) rfl _ _ _ rfl rfl rfl
            refine ⟨fun _ => ?_, fun h => by cases h⟩
            clear h0 hg hd
            clear hf
            refine Gives.value (w' := w1) ?_ ⟨Chg.refl _ _, rfl⟩
            go_simp
          · intro ρ w1 hw h0 hc hg hf hd
            have d12 := hd ⟨12, .data⟩ (by simp) rfl _ _ _ rfl rfl rfl
            refine ⟨fun _ => ?_, fun h => by cases h⟩
            clear h0 hg hd
            exact gives_move rfl ⟨Chg.refl _ _, d12⟩
          · intro ρ w1 hw h0 hc hg hf hd
            have d13 := hd ⟨13, .chain⟩ (by simp) rfl _ _ _ rfl rfl rfl
            refine ⟨fun _ => ?_, fun h => by rw [wantedBy_true rfl rfl rfl d13] at h; cases h⟩
            clear d13
            clear h0 hg hd
            refine gives_call rfl hf Tryd.func46 rfl (by kernel_rfl) (args := #[]) (by simp [hc]) ((awake4_any w1 (HLA6.out.up hw)).mono ?_)
            rintro e w2 ⟨rfl, hb⟩
            exact ⟨_, rfl, up_below hb, rfl⟩
          · intro ρ w1 hw h0 hc hg hf hd
            have d13 := hd ⟨13, .data⟩ (by simp) rfl _ _ _ rfl rfl rfl
            have d14 := hd ⟨14, .data⟩ (by simp) rfl _ _ _ rfl rfl rfl
            refine ⟨fun _ => ?_, fun h => by cases h⟩
            clear h0 hg hd
            clear hf
            refine Gives.value (w' := w1) ?_ ⟨Chg.refl _ _, rfl⟩
            go_simp
        · intro vs w9 hw hr
          have h15 := hr 15 _ rfl
          clear hr
          dsimp only [putsL, restL]
          simp only [Act.put, List.setIfInBounds_toArray, List.set_cons_zero, List.set_cons_succ]
          rw [h15]
          have HU9 := Lib.hid (HU7.out.trans hw)
          clear hw h15
          go_wp2
          go_ret
          exact ⟨rfl, HU9.out.below_none (fun _ _ h => h)⟩
end Go.Proofs.YtaahffminoekfaaDoor
