/-
  Two hashes that one signature leads to the same key for; 'collides', walked.
-/
import Derived.Test.YtaahffminoekfaaDoorY11
import Derived.Test.YtaahffminoekfaaDoorU1
import Derived.Test.YtaahffminoekfaaDoorY6
namespace Go.Proofs.YtaahffminoekfaaDoor
open Go.RowKit
theorem neq_str (xs ys : List Int) (h : Bytes xs) (k : Bytes ys) (W : World) : (binOp .neq 9 (.string (strOfNums xs)) (.string (strOfNums ys))).run Tryd.prog W = .ok (.bool (!(xs == ys))) W := by
  have := str_eq xs ys h k
  simp [binOp, Op.stringOp, bne, this]
set_option maxRecDepth 100000 in
set_option maxHeartbeats 4000000 in
theorem collides_any (a b : List Int) (v : Value) (sg : List (List Int)) (w : World) (hla : a.length = 32) (hba : Bytes a) (hlb : b.length = 32) (hbb : Bytes b) (hv : SlH w v sg) (h67 : sg.length = 67)
    (hkey : shaI (4 :: (recI a sg 67).flatten) = shaI (4 :: (recI b sg 67).flatten)) (hlaid : Laid w) :
    Calls Tryd.prog 59 #[hashV a, hashV b, v] w (TruePost w) := by
  have hl2 := hlaid.lt
  obtain ⟨cx, hcx, hux, _, _, hsz, _⟩ := hash_parts a hla
  obtain ⟨cy, hcy, huy, _, _, hszy, _⟩ := hash_parts b hlb
  obtain ⟨b0, off, ac, rfl, hv1, hv2, _, hrr⟩ := hv.form (by omega)
  rw [h67] at hv hrr hv1 ⊢
  have hcm : ac ≤ 9223372036854775807 := by unfold maxLen at hv2; omega
  have HRR := Lib.hid (fun r hr => (hrr r hr).2.2)
  have HV := Lib.hid hv
  have HCA := Lib.hid hcx
  have HSA := Lib.hid hsz
  have HCB := Lib.hid hcy
  have HSB := Lib.hid hszy
  have HKEY := Lib.hid hkey
  rw [hcx, hcy]
  have HBA := Lib.hid hba
  have HLA := Lib.hid hla
  have HBB := Lib.hid hbb
  have HLB := Lib.hid hlb
  have HLD := Lib.hid hlaid
  clear hcx hux hla hba hlb hbb hsz hcy huy hszy hv hkey hrr hv2 hlaid
  go_enter Tryd.func59, Tryd.ntmps59
  go_wp2_with fail
  obtain ⟨W0, hW0⟩ : ∃ W0, W0 = (w.alloc (.cells cx 25)).alloc (.cells cy 25) := ⟨_, rfl⟩
  rw [← hW0]
  have HB0 : Hid (W0.drew.heap[w.heap.size + 1]? = some (.cells cy 25 (0, 0))) := Lib.hid (by
    rw [hW0]; have := heap_alloc_last (w.alloc (.cells cx 25)) (.cells cy 25); rwa [World.size_alloc] at this)
  have HA0 : Hid (W0.drew.heap[w.heap.size]? = some (.cells cx 25 (0, 0))) := Lib.hid (by rw [hW0]; exact (Below.heap_alloc _ _ _ (by simp)).trans (heap_alloc_last _ _))
  have HC0 : Hid (Up w W0.drew) := Lib.hid (by rw [hW0]; exact (((Chg.refl _ w).alloc _).alloc _).drew)
  clear hW0
  refine region_mono Up [fun v _ => v = hashV a,
      DigV (digitsI a),
      fun v _ => v = hashV b,
      DigV (digitsI b),
      DigV (digitsI a),
      DigV (digitsI b)] (by kernel_rfl) (by kernel_rfl) (Chg.refl _) (fun _ _ _ => Chg.trans) (by simp) ?_ ?_ ?_
  · simp only [List.forall_mem_cons]
    exact ⟨fun _ _ _ _ _ h => h, fun _ _ _ _ hu h => DigV.up h hu, fun _ _ _ _ _ h => h, fun _ _ _ _ hu h => DigV.up h hu, fun _ _ _ _ hu h => DigV.up h hu, fun _ _ _ _ hu h => DigV.up h hu, by simp⟩
  · refine ⟨?_, ?_, ?_, ?_, ?_, ?_, trivial⟩
    · intro ρ w1 hw h0 hc hg hf hd
      have s3 : ρ (.tmp 3) = .pointer (some ⟨w.heap.size, 0, none⟩) := h0 3 (by kernel_rfl)
      refine ⟨fun _ => ?_, fun h => by cases h⟩
      clear h0 hg hd
      clear hc hf
      rw [HCA.out]
      exact gives_load_row rfl s3 (hw.heap HA0.out (fun h => h)) Tryd.underlying25 rfl HSA.out ⟨Chg.refl _ _, rfl⟩
    · intro ρ w1 hw h0 hc hg hf hd
      have d0 := hd ⟨0, .data⟩ (by simp) rfl _ _ _ rfl rfl rfl
      refine ⟨fun _ => ?_, fun h => by cases h⟩
      clear h0 hg hd
      refine gives_call rfl hf Tryd.func45 rfl (by kernel_rfl) (args := #[hashV a]) (by simp [hc, d0]) ((refDigits_any a HLA.out HBA.out w1).mono ?_)
      rintro e w2 ⟨v, rfl, ho, hb⟩
      exact ⟨v, rfl, up_below hb, DigV.of ho⟩
    · intro ρ w1 hw h0 hc hg hf hd
      have s4 : ρ (.tmp 4) = .pointer (some ⟨w.heap.size + 1, 0, none⟩) := h0 4 (by kernel_rfl)
      refine ⟨fun _ => ?_, fun h => by cases h⟩
      clear h0 hg hd
      clear hc hf
      rw [HCB.out]
      exact gives_load_row rfl s4 (hw.heap HB0.out (fun h => h)) Tryd.underlying25 rfl HSB.out ⟨Chg.refl _ _, rfl⟩
    · intro ρ w1 hw h0 hc hg hf hd
      have d2 := hd ⟨2, .data⟩ (by simp) rfl _ _ _ rfl rfl rfl
      refine ⟨fun _ => ?_, fun h => by cases h⟩
      clear h0 hg hd
      refine gives_call rfl hf Tryd.func45 rfl (by kernel_rfl) (args := #[hashV b]) (by simp [hc, d2]) ((refDigits_any b HLB.out HBB.out w1).mono ?_)
      rintro e w2 ⟨v, rfl, ho, hb⟩
      exact ⟨v, rfl, up_below hb, DigV.of ho⟩
    · intro ρ w1 hw h0 hc hg hf hd
      have d1 := hd ⟨1, .data⟩ (by simp) rfl _ _ _ rfl rfl rfl
      refine ⟨fun _ => ?_, fun h => by cases h⟩
      clear h0 hg hd
      exact gives_assign rfl ⟨Chg.refl _ _, d1⟩
    · intro ρ w1 hw h0 hc hg hf hd
      have d3 := hd ⟨3, .data⟩ (by simp) rfl _ _ _ rfl rfl rfl
      refine ⟨fun _ => ?_, fun h => by cases h⟩
      clear h0 hg hd
      exact gives_assign rfl ⟨Chg.refl _ _, d3⟩
  · intro vs w2 hw hr
    have h4 := hr 4 _ rfl
    have h5 := hr 5 _ rfl
    clear hr
    dsimp only [putsL, restL]
    simp only [Act.put, List.setIfInBounds_toArray, List.set_cons_zero, List.set_cons_succ]
    simp only [Nat.zero_add, Nat.reduceAdd]
    obtain ⟨ga, ca, e1, ha1, ha2, hca⟩ := h4
    obtain ⟨gb, cb, e3, hb1, hb2, hcb⟩ := h5
    rw [e1, e3]
    have HU := Lib.hid (HC0.out.trans hw)
    have HLW := Lib.hid (HLD.out.up (HC0.out.trans hw))
    have HVW := Lib.hid (HV.out.up (HC0.out.trans hw))
    have HRW := Lib.hid (fun r hr => Rng.up (HRR.out r hr) (HC0.out.trans hw))
    have HDA := Lib.hid hca
    have HDB := Lib.hid hcb
    clear hw e1 e3 HA0 HB0 HC0 hca hcb HV HRR HLD
    rename World => W1
    go_wp2_with fail
    go_loopw [9, 10, 26] (fun o1 o2 i wr => ∃ (k c1 c2 : Nat) (B1 B2 : Option Addr), k ≤ 67 ∧ i = .int .i64 k ∧ o1 = .slice B1 (32 * k) c1 ∧ o2 = .slice B2 (32 * k) c2 ∧ wr.ownsRow W1.heap.size 5 1 (.slice B1 (32 * k) c1) (32 * k) (u8s (recI a sg k).flatten) ∧
      wr.ownsRow W1.heap.size 5 1 (.slice B2 (32 * k) c2) (32 * k) (u8s (recI b sg k).flatten) ∧ (∀ i, (Value.slice B1 (32 * k) c1).ownBlock = some i → (Value.slice B2 (32 * k) c2).ownBlock ≠ some i) ∧ Up W1 wr) (fun _ _ i _ => 67 - (intOf i).toNat)
    case atStart => exact ⟨0, 0, 0, none, none, by omega, rfl, rfl, rfl, World.ownsRow_nil _ _ _ _, World.ownsRow_nil _ _ _ _, fun i h => by simp [Value.ownBlock] at h, Chg.refl _ _⟩
    case round =>
      rename World => wo
      obtain ⟨k, c1, c2, B1, B2, hk, rfl, rfl, rfl, ho1, ho2, hap, hu⟩ := hrel
      by_cases hk2 : (k : Int) < 67
      · have hud : Up W1 wo.drew := hu.trans (Chg.refl _ _).drew
        have hsk := HVW.out.lens k (by omega)
        have hrg := Rng.up (HRW.out k (by omega)) hud
        have ca1 := hud.cell (HDA.out k (by omega)) (fun h => h)
        have cb1 := hud.cell (HDB.out k (by omega)) (fun h => h)
        have bda := digit_bd a HBA.out k (by omega)
        have bdb := digit_bd b HBB.out k (by omega)
        have hra := recI_succ a sg k
        have hrb := recI_succ b sg k
        obtain ⟨da, hda⟩ : ∃ d, (digitsI a).getD k 0 = d := ⟨_, rfl⟩
        obtain ⟨db, hdb⟩ : ∃ d, (digitsI b).getD k 0 = d := ⟨_, rfl⟩
        obtain ⟨s0, hs0⟩ : ∃ s, sg.getD k [] = s := ⟨_, rfl⟩
        rw [hda] at ca1 bda hra
        rw [hdb] at cb1 bdb hrb
        rw [hs0] at hsk hrg hra hrb
        have hl1 := walkI_len s0 k da (15 - da).toNat hsk.1
        have hl2' := walkI_len s0 k db (15 - db).toNat hsk.1
        obtain ⟨x1, hx1⟩ : ∃ x, walkI s0 k da (15 - da).toNat = x := ⟨_, rfl⟩
        obtain ⟨x2, hx2⟩ : ∃ x, walkI s0 k db (15 - db).toNat = x := ⟨_, rfl⟩
        rw [hx1] at hl1 hra
        rw [hx2] at hl2' hrb
        obtain ⟨y1, hy1, hyu1, hyo1, _, hys1, hyz1⟩ := hash_parts x1 hl1
        obtain ⟨y2, hy2, hyu2, hyo2, _, hys2, hyz2⟩ := hash_parts x2 hl2'
        have EX1 := Lib.hid hx1
        have EX2 := Lib.hid hx2
        have HS0L := Lib.hid hsk.1
        have HS0B := Lib.hid hsk.2
        have HRGo := Lib.hid (show wo.drew.rangeAt b0 (off + k * 32) (u8s s0) by rw [Nat.mul_comm]; exact hrg)
        have CA := Lib.hid ca1
        have CB := Lib.hid cb1
        have HY1 := Lib.hid hy1
        have HY2 := Lib.hid hy2
        have HYU1 := Lib.hid hyu1
        have HYU2 := Lib.hid hyu2
        have HYO1 := Lib.hid hyo1
        have HYO2 := Lib.hid hyo2
        have HYS1 := Lib.hid hys1
        have HYS2 := Lib.hid hys2
        have HYZ1 := Lib.hid hyz1
        have HYZ2 := Lib.hid hyz2
        have HXL1 := Lib.hid hl1
        have HXL2 := Lib.hid hl2'
        have HRA := Lib.hid hra
        have HRB := Lib.hid hrb
        have HO1 := Lib.hid ho1
        have HO2 := Lib.hid ho2
        have HAP := Lib.hid hap
        have HUo := Lib.hid hu
        have HLAo := Lib.hid (HLW.out.up hud)
        obtain ⟨bda0, bda1⟩ := bda
        obtain ⟨bdb0, bdb1⟩ := bdb
        clear hud hsk hrg ca1 cb1 hra hrb hda hdb hs0 hl1 hl2' hx1 hx2 hy1 hy2 hyu1 hyu2 hyo1 hyo2 hys1 hys2 hyz1 hyz2 ho1 ho2 hap hu
        go_wp2_with fail
        refine region_monoD (fun j => j == 20 || j == 21) (fun v u => v ≠ u) Up [fun v _ => v = .slice (some ⟨b0, off, none⟩) 67 ac,
            fun v _ => v = .int .i64 k,
            fun v _ => v = .pointer (some ⟨b0, off + k * 32, none⟩),
            fun v _ => v = hashV s0,
            fun v _ => v = .int .i64 k,
            fun v _ => v = .slice (some ⟨ga, 0, none⟩) 67 ca,
            fun v _ => v = .int .i64 k,
            fun v _ => v = .pointer (some ⟨ga, k, none⟩),
            fun v _ => v = .int .i64 da,
            fun v _ => v = hashV x1,
            fun v _ => v = .slice (some ⟨b0, off, none⟩) 67 ac,
            fun v _ => v = .int .i64 k,
            fun v _ => v = .pointer (some ⟨b0, off + k * 32, none⟩),
            fun v _ => v = hashV s0,
            fun v _ => v = .int .i64 k,
            fun v _ => v = .slice (some ⟨gb, 0, none⟩) 67 cb,
            fun v _ => v = .int .i64 k,
            fun v _ => v = .pointer (some ⟨gb, k, none⟩),
            fun v _ => v = .int .i64 db,
            fun v _ => v = hashV x2,
            ZB wo.drew.heap.size,
            ZB wo.drew.heap.size] (by kernel_rfl) (by kernel_rfl) (Chg.refl _) (fun _ _ _ => Chg.trans) (by simp) ?_ ?_ ?_ ?_ ?_ ?_
        · simp only [List.forall_mem_cons]
          exact ⟨fun _ _ _ _ _ h => h, fun _ _ _ _ _ h => h, fun _ _ _ _ _ h => h, fun _ _ _ _ _ h => h, fun _ _ _ _ _ h => h, fun _ _ _ _ _ h => h, fun _ _ _ _ _ h => h, fun _ _ _ _ _ h => h, fun _ _ _ _ _ h => h, fun _ _ _ _ _ h => h, fun _ _ _ _ _ h => h, fun _ _ _ _ _ h => h, fun _ _ _ _ _ h => h, fun _ _ _ _ _ h => h, fun _ _ _ _ _ h => h, fun _ _ _ _ _ h => h, fun _ _ _ _ _ h => h, fun _ _ _ _ _ h => h, fun _ _ _ _ _ h => h, fun _ _ _ _ _ h => h, fun _ _ _ _ hu h => ZB.up h hu, fun _ _ _ _ hu h => ZB.up h hu, by simp⟩
        · refine ⟨?_, ?_, ?_, ?_, ?_, ?_, ?_, ?_, ?_, ?_, ?_, ?_, ?_, ?_, ?_, ?_, ?_, ?_, ?_, ?_, ?_, ?_, trivial⟩
          · intro ρ w1 hw h0 hc hg hf hd
            have s2 : ρ (.tmp 2) = .slice (some ⟨b0, off, none⟩) 67 ac := h0 2 (by kernel_rfl)
            refine ⟨fun _ => ?_, fun h => by cases h⟩
            clear h0 hg hd
            exact gives_move rfl ⟨Chg.refl _ _, s2⟩
          · intro ρ w1 hw h0 hc hg hf hd
            have s11 : ρ (.tmp 11) = .int .i64 k := h0 11 (by kernel_rfl)
            refine ⟨fun _ => ?_, fun h => by cases h⟩
            clear h0 hg hd
            exact gives_move rfl ⟨Chg.refl _ _, s11⟩
          · intro ρ w1 hw h0 hc hg hf hd
            have d0 := hd ⟨0, .data⟩ (by simp) rfl _ _ _ rfl rfl rfl
            have d1 := hd ⟨1, .data⟩ (by simp) rfl _ _ _ rfl rfl rfl
            refine ⟨fun _ => ?_, fun h => by cases h⟩
            clear h0 hg hd
            clear hf
            refine Gives.value (w' := w1) ?_ ⟨Chg.refl _ _, rfl⟩
            go_simp
          · intro ρ w1 hw h0 hc hg hf hd
            have d2 := hd ⟨2, .data⟩ (by simp) rfl _ _ _ rfl rfl rfl
            refine ⟨fun _ => ?_, fun h => by cases h⟩
            clear h0 hg hd
            exact gives_hash rfl d2 HS0L.out (Rng.up HRGo.out hw) ⟨Chg.refl _ _, rfl⟩
          · intro ρ w1 hw h0 hc hg hf hd
            have s11 : ρ (.tmp 11) = .int .i64 k := h0 11 (by kernel_rfl)
            refine ⟨fun _ => ?_, fun h => by cases h⟩
            clear h0 hg hd
            exact gives_move rfl ⟨Chg.refl _ _, s11⟩
          · intro ρ w1 hw h0 hc hg hf hd
            have s7 : ρ (.tmp 7) = .slice (some ⟨ga, 0, none⟩) 67 ca := h0 7 (by kernel_rfl)
            refine ⟨fun _ => ?_, fun h => by cases h⟩
            clear h0 hg hd
            exact gives_move rfl ⟨Chg.refl _ _, s7⟩
          · intro ρ w1 hw h0 hc hg hf hd
            have s11 : ρ (.tmp 11) = .int .i64 k := h0 11 (by kernel_rfl)
            refine ⟨fun _ => ?_, fun h => by cases h⟩
            clear h0 hg hd
            exact gives_move rfl ⟨Chg.refl _ _, s11⟩
          · intro ρ w1 hw h0 hc hg hf hd
            have d5 := hd ⟨5, .data⟩ (by simp) rfl _ _ _ rfl rfl rfl
            have d6 := hd ⟨6, .data⟩ (by simp) rfl _ _ _ rfl rfl rfl
            refine ⟨fun _ => ?_, fun h => by cases h⟩
            clear h0 hg hd
            clear hf
            refine Gives.value (w' := w1) ?_ ⟨Chg.refl _ _, rfl⟩
            go_simp
          · intro ρ w1 hw h0 hc hg hf hd
            have d7 := hd ⟨7, .data⟩ (by simp) rfl _ _ _ rfl rfl rfl
            refine ⟨fun _ => ?_, fun h => by cases h⟩
            clear h0 hg hd
            clear hc hf
            have c0 := hw.cell CA.out (fun h => h)
            refine Gives.value (w' := w1) ?_ ⟨Chg.refl _ _, rfl⟩
            go_simp
          · intro ρ w1 hw h0 hc hg hf hd
            have d3 := hd ⟨3, .data⟩ (by simp) rfl _ _ _ rfl rfl rfl
            have d4 := hd ⟨4, .data⟩ (by simp) rfl _ _ _ rfl rfl rfl
            have d8 := hd ⟨8, .data⟩ (by simp) rfl _ _ _ rfl rfl rfl
            refine ⟨fun _ => ?_, fun h => by cases h⟩
            clear h0 hg hd
            have hcl := walked_any s0 k da 15 w1 HS0L.out HS0B.out ⟨by omega, by omega⟩ ⟨by omega, by omega⟩ ⟨by omega, by omega⟩ (HLAo.out.up hw)
            unfold HashPost at hcl
            rw [EX1.out] at hcl
            refine gives_call rfl hf Tryd.func48 rfl (by kernel_rfl) (args := #[hashV s0, .int .i64 k, .int .i64 da, .int .i64 15]) (by simp [hc, d3, d4, d8]) (hcl.mono ?_)
            rintro e w2 ⟨rfl, hb⟩
            exact ⟨_, rfl, up_below hb, rfl⟩
          · intro ρ w1 hw h0 hc hg hf hd
            have s2 : ρ (.tmp 2) = .slice (some ⟨b0, off, none⟩) 67 ac := h0 2 (by kernel_rfl)
            refine ⟨fun _ => ?_, fun h => by cases h⟩
            clear h0 hg hd
            exact gives_move rfl ⟨Chg.refl _ _, s2⟩
          · intro ρ w1 hw h0 hc hg hf hd
            have s11 : ρ (.tmp 11) = .int .i64 k := h0 11 (by kernel_rfl)
            refine ⟨fun _ => ?_, fun h => by cases h⟩
            clear h0 hg hd
            exact gives_move rfl ⟨Chg.refl _ _, s11⟩
          · intro ρ w1 hw h0 hc hg hf hd
            have d10 := hd ⟨10, .data⟩ (by simp) rfl _ _ _ rfl rfl rfl
            have d11 := hd ⟨11, .data⟩ (by simp) rfl _ _ _ rfl rfl rfl
            refine ⟨fun _ => ?_, fun h => by cases h⟩
            clear h0 hg hd
            clear hf
            refine Gives.value (w' := w1) ?_ ⟨Chg.refl _ _, rfl⟩
            go_simp
          · intro ρ w1 hw h0 hc hg hf hd
            have d12 := hd ⟨12, .data⟩ (by simp) rfl _ _ _ rfl rfl rfl
            refine ⟨fun _ => ?_, fun h => by cases h⟩
            clear h0 hg hd
            exact gives_hash rfl d12 HS0L.out (Rng.up HRGo.out hw) ⟨Chg.refl _ _, rfl⟩
          · intro ρ w1 hw h0 hc hg hf hd
            have s11 : ρ (.tmp 11) = .int .i64 k := h0 11 (by kernel_rfl)
            refine ⟨fun _ => ?_, fun h => by cases h⟩
            clear h0 hg hd
            exact gives_move rfl ⟨Chg.refl _ _, s11⟩
          · intro ρ w1 hw h0 hc hg hf hd
            have s8 : ρ (.tmp 8) = .slice (some ⟨gb, 0, none⟩) 67 cb := h0 8 (by kernel_rfl)
            refine ⟨fun _ => ?_, fun h => by cases h⟩
            clear h0 hg hd
            exact gives_move rfl ⟨Chg.refl _ _, s8⟩
          · intro ρ w1 hw h0 hc hg hf hd
            have s11 : ρ (.tmp 11) = .int .i64 k := h0 11 (by kernel_rfl)
            refine ⟨fun _ => ?_, fun h => by cases h⟩
            clear h0 hg hd
            exact gives_move rfl ⟨Chg.refl _ _, s11⟩
          · intro ρ w1 hw h0 hc hg hf hd
            have d15 := hd ⟨15, .data⟩ (by simp) rfl _ _ _ rfl rfl rfl
            have d16 := hd ⟨16, .data⟩ (by simp) rfl _ _ _ rfl rfl rfl
            refine ⟨fun _ => ?_, fun h => by cases h⟩
            clear h0 hg hd
            clear hf
            refine Gives.value (w' := w1) ?_ ⟨Chg.refl _ _, rfl⟩
            go_simp
          · intro ρ w1 hw h0 hc hg hf hd
            have d17 := hd ⟨17, .data⟩ (by simp) rfl _ _ _ rfl rfl rfl
            refine ⟨fun _ => ?_, fun h => by cases h⟩
            clear h0 hg hd
            clear hc hf
            have c0 := hw.cell CB.out (fun h => h)
            refine Gives.value (w' := w1) ?_ ⟨Chg.refl _ _, rfl⟩
            go_simp
          · intro ρ w1 hw h0 hc hg hf hd
            have d13 := hd ⟨13, .data⟩ (by simp) rfl _ _ _ rfl rfl rfl
            have d14 := hd ⟨14, .data⟩ (by simp) rfl _ _ _ rfl rfl rfl
            have d18 := hd ⟨18, .data⟩ (by simp) rfl _ _ _ rfl rfl rfl
            refine ⟨fun _ => ?_, fun h => by cases h⟩
            clear h0 hg hd
            have hcl := walked_any s0 k db 15 w1 HS0L.out HS0B.out ⟨by omega, by omega⟩ ⟨by omega, by omega⟩ ⟨by omega, by omega⟩ (HLAo.out.up hw)
            unfold HashPost at hcl
            rw [EX2.out] at hcl
            refine gives_call rfl hf Tryd.func48 rfl (by kernel_rfl) (args := #[hashV s0, .int .i64 k, .int .i64 db, .int .i64 15]) (by simp [hc, d13, d14, d18]) (hcl.mono ?_)
            rintro e w2 ⟨rfl, hb⟩
            exact ⟨_, rfl, up_below hb, rfl⟩
          · intro ρ w1 hw h0 hc hg hf hd
            refine ⟨fun _ => ?_, fun h => by cases h⟩
            clear h0 hg hd
            exact (gives_zero _ hw.size rfl).mono fun v w2 ⟨hu, hz, _⟩ => ⟨hu, hz⟩
          · intro ρ w1 hw h0 hc hg hf hd
            refine ⟨fun _ => ?_, fun h => by cases h⟩
            clear h0 hg hd
            exact (gives_zero _ hw.size rfl).mono fun v w2 ⟨hu, hz, _⟩ => ⟨hu, hz⟩
        · intro i o hi ho
          have h : i = 20 ∨ i = 21 := by simpa using hi
          rcases h with rfl | rfl
          all_goals (injection ho with ho; subst ho; rfl)
        · intro i hi
          have h : i = 20 ∨ i = 21 := by simpa using hi
          rcases h with rfl | rfl <;> simp
        · intro i o r hi ho hr ρ w1 hw
          have h : i = 20 ∨ i = 21 := by simpa using hi
          rcases h with rfl | rfl
          · injection ho with ho
            injection hr with hr
            subst ho hr
            refine (gives_zero _ hw.size rfl).mono ?_
            rintro v w2 ⟨hu, hz, hap⟩
            refine ⟨hu, hz, fun j rj u hj hji hrj hu2 => ?_⟩
            have h : j = 20 ∨ j = 21 := by simpa using hj
            rcases h with rfl | rfl
            · exact absurd rfl hji
            · injection hrj with hrj
              subst hrj
              exact hap u hu2
          · injection ho with ho
            injection hr with hr
            subst ho hr
            refine (gives_zero _ hw.size rfl).mono ?_
            rintro v w2 ⟨hu, hz, hap⟩
            refine ⟨hu, hz, fun j rj u hj hji hrj hu2 => ?_⟩
            have h : j = 20 ∨ j = 21 := by simpa using hj
            rcases h with rfl | rfl
            · injection hrj with hrj
              subst hrj
              exact hap u hu2
            · exact absurd rfl hji
        · intro vs w5 hw hr hapart
          have h9 := hr 9 _ rfl
          have h19 := hr 19 _ rfl
          have h20 := hr 20 _ rfl
          have h21 := hr 21 _ rfl
          clear hr
          dsimp only [putsL, restL]
          simp only [Act.put, List.setIfInBounds_toArray, List.set_cons_zero, List.set_cons_succ]
          obtain ⟨P1, e20, hp1, hz1⟩ := h20
          obtain ⟨P2, e21, hp2, hz2⟩ := h21
          have hne12 : P1 ≠ P2 := fun he => hapart 20 21 rfl rfl (by decide) (by rw [e20, e21, he])
          rw [h9, h19, e20, e21, HY1.out, HY2.out]
          have hu5 := HUo.out.trans ((Chg.refl (fun _ => False) wo).drew.trans hw)
          have hwz : wo.heap.size ≤ P1 := hp1
          have hwz2 : wo.heap.size ≤ P2 := hp2
          have Z1 := Lib.hid hz1
          have Z2 := Lib.hid hz2
          have HU5 := Lib.hid hu5
          have HWW := Lib.hid ((Chg.refl (fun _ => False) wo).drew.trans hw)
          have HD1 := Lib.hid (show (List.replicate 32 (Value.int .u8 0)).toArray.size = y1.size by rw [HYZ1.out]; rfl)
          have HD2 := Lib.hid (show (List.replicate 32 (Value.int .u8 0)).toArray.size = y2.size by rw [HYZ2.out]; rfl)
          clear hw h9 h19 e20 e21 hz1 hz2 hu5 hapart hp1 hp2
          go_wp2_with (first
            | refine wpList_store_row rfl 25 (.tmp 12) (.tmp 38) rfl P1 y1 (by rfl) (by rfl) 25 _ Z1.out HYS1.out HD1.out HYO1.out ?_
            | refine wpList_store_row rfl 25 (.tmp 13) (.tmp 48) rfl P2 y2 (by rfl) (by rfl) 25 _ ((setRow_other _ _ _ _ (Ne.symm hne12)).trans Z2.out) HYS2.out HD2.out HYO2.out ?_)
          obtain ⟨w6, hw6⟩ : ∃ w6, w6 = ((w5.setRow P1 y1).setRow P2 y2).drew := ⟨_, rfl⟩
          have hr1 : w6.heap[P1]? = some (.cells y1 25 (0, 0)) := by rw [hw6]; exact (setRow_other _ _ _ _ hne12).trans (setRow_same _ _ y1 _ 25 (0, 0) Z1.out)
          have hr2 : w6.heap[P2]? = some (.cells y2 25 (0, 0)) := by rw [hw6]; exact setRow_same _ _ y2 _ 25 (0, 0) ((setRow_other _ _ _ _ (Ne.symm hne12)).trans Z2.out)
          have hu6 : Up wo w6 := by rw [hw6]; exact ((HWW.out.setRow P1 (.inr hwz) y1).setRow P2 (.inr hwz2) y2).drew
          have hs1 : SlB w6 (.slice (some ⟨P1, 0, none⟩) 32 32) x1 := SlB.mk HXL1.out.symm (by omega) (by omega) (fun j hj => by
            rw [Nat.zero_add, cell_of_row _ _ _ _ _ _ hr1]
            exact hash_at x1 y1 HYU1.out HXL1.out j (by have := HXL1.out; omega))
          have hs2 : SlB w6 (.slice (some ⟨P2, 0, none⟩) 32 32) x2 := SlB.mk HXL2.out.symm (by omega) (by omega) (fun j hj => by
            rw [Nat.zero_add, cell_of_row _ _ _ _ _ _ hr2]
            exact hash_at x2 y2 HYU2.out HXL2.out j (by have := HXL2.out; omega))
          have hsz6 := hu6.size
          have hwo := HUo.out.size
          obtain ⟨A1, d1, w7, hrun1, hown1, hg1, hb1'⟩ := push_bytes w6 W1.heap.size _ _ _ x1 (own_up HO1.out hu6) _ hs1 (by rw [HXL1.out]; omega) (by omega) (by rw [HXL1.out]; omega)
          have hk1 : ∀ i, (Value.slice B1 (32 * k) c1).ownBlock = some i → i < wo.heap.size := fun i hi => (HO1.out.lt i hi).2
          have hk2' : ∀ i, (Value.slice B2 (32 * k) c2).ownBlock = some i → i < wo.heap.size := fun i hi => (HO2.out.lt i hi).2
          have hown2a : w7.ownsRow W1.heap.size 5 1 (.slice B2 (32 * k) c2) (32 * k) (u8s (recI b sg k).flatten) := own_chg (own_up HO2.out hu6) hg1 (fun i hi hi1 => HAP.out i hi1 hi)
          have hs2a : SlB w7 (.slice (some ⟨P2, 0, none⟩) 32 32) x2 := SlB.mk HXL2.out.symm (by omega) (by omega) (fun j hj => by
            rw [Nat.zero_add]
            refine hg1.cell ?_ (fun hi => ?_)
            · rw [cell_of_row _ _ _ _ _ _ hr2]; exact hash_at x2 y2 HYU2.out HXL2.out j (by have := HXL2.out; omega)
            · have := hk1 P2 hi; omega)
          obtain ⟨A2, d2, w8, hrun2, hown2, hg2, hb2'⟩ := push_bytes w7 W1.heap.size _ _ _ x2 hown2a _ hs2a (by rw [HXL2.out]; omega) (by have := hg1.size; omega) (by rw [HXL2.out]; omega)
          have hap1 : ∀ i, (Value.slice A1 (32 * k + x1.length) d1).ownBlock = some i → ¬ (Value.slice B2 (32 * k) c2).ownBlock = some i := fun i hi h2 => by
            rcases hb1' with h | ⟨g, h, hg⟩
            · rw [h] at hi; exact HAP.out i hi h2
            · have h3 := Option.some.inj (h.symm.trans hi); have h4 := hk2' i h2; omega
          have hown1a := own_chg hown1 hg2 hap1
          have hap2 : ∀ i, (Value.slice A1 (32 * k + x1.length) d1).ownBlock = some i → (Value.slice A2 (32 * k + x2.length) d2).ownBlock ≠ some i := fun i hi h2 => by
            rcases hb2' with h | ⟨g, h, hg⟩
            · rw [h] at h2; exact hap1 i hi h2
            · have h3 := Option.some.inj (h.symm.trans h2); have h4 := (hown1.lt i hi).2; omega
          have hu8 : Up W1 w8 := ((HUo.out.trans hu6).then hg1 (fun i hi => .inr (by have := (HO1.out.lt i hi).1; omega))).then hg2 (fun i hi => .inr (by have := (HO2.out.lt i hi).1; omega))
          rw [HXL1.out] at hrun1 hown1a hap2
          rw [HXL2.out] at hrun2 hown2 hap2
          have HR1 := Lib.hid hrun1
          have HR2 := Lib.hid hrun2
          have HOW1 := Lib.hid hown1a
          have HOW2 := Lib.hid hown2
          have HAP2 := Lib.hid hap2
          have HU8 := Lib.hid hu8
          rw [hw6] at HR1
          clear hr1 hr2 hu6 hs1 hs2 hsz6 hrun1 hown1 hg1 hb1' hk1 hk2' hown2a hs2a hrun2 hown2 hg2 hb2' hap1 hown1a hap2 hu8 hw6
          go_region_law ((first
            | refine step_run_append (by rfl) _ _ 22 (by rfl) _ _ (by rfl) (by rfl) 22 (by rfl) HR1.out ?_
            | refine step_run_append (by rfl) _ _ 22 (by rfl) _ _ (by rfl) (by rfl) 22 (by rfl) HR2.out ?_))
          all_goals
            go_wp2
            go_roundw
            case rel =>
              refine ⟨k + 1, d1, d2, A1, A2, by omega, by go_num, rfl, rfl, ?_, ?_, HAP2.out, HU8.out⟩
              · rw [HRA.out, List.flatten_append, List.flatten_singleton]; exact HOW1.out
              · rw [HRB.out, List.flatten_append, List.flatten_singleton]; exact HOW2.out
            case measure => simp [intOf]; omega
      · obtain rfl : k = 67 := by omega
        have hra := recI_len a sg 67
        have hrb := recI_len b sg 67
        have hea := recI_each a sg 67 (fun r hr => HVW.out.lens r (by omega))
        have heb := recI_each b sg 67 (fun r hr => HVW.out.lens r (by omega))
        have hinj := flat_inj (recI a sg 67) (recI b sg 67) (by rw [hra, hrb]) (fun r hr => (hea r (by omega)).1) (fun r hr => (heb r (by omega)).1)
        have hfa := flat_len32 (recI a sg 67) (fun r hr => (hea r (by omega)).1)
        have hfb := flat_len32 (recI b sg 67) (fun r hr => (heb r (by omega)).1)
        have hba := flat_bytes (recI a sg 67) (fun r hr => (hea r (by omega)).2)
        have hbb := flat_bytes (recI b sg 67) (fun r hr => (heb r (by omega)).2)
        rw [hra] at hfa
        rw [hrb] at hfb
        have hkey := HKEY.out
        have s1 := own_src ho1
        have s2 := own_src ho2
        obtain ⟨F1, hF1⟩ : ∃ F, (recI a sg 67).flatten = F := ⟨_, rfl⟩
        obtain ⟨F2, hF2⟩ : ∃ F, (recI b sg 67).flatten = F := ⟨_, rfl⟩
        rw [hF1] at hfa hba hkey s1 hinj
        rw [hF2] at hfb hbb hkey s2 hinj
        have hi1 := input_any 4 (.slice (some ⟨wo.heap.size, 0, none⟩) 1 1) [F1] F1 (wo.alloc (.cells #[.slice B1 (32 * 67) c1] 22)) (rows1 wo _ F1 s1 hba) (by simp) (by omega)
        have HI1 := Lib.hid hi1
        have S2 := Lib.hid s2
        have BA1 := Lib.hid hba
        have BB1 := Lib.hid hbb
        have LFA := Lib.hid hfa
        have LFB := Lib.hid hfb
        have HK2 := Lib.hid hkey
        have HINJ := Lib.hid hinj
        have HUo := Lib.hid hu
        clear hra hrb hea heb hinj hfa hfb hba hbb hkey s1 s2 hF1 hF2 hi1 ho1 ho2 hap hu HKEY
        go_wp2_with fail
        refine HI1.out.mono ?_
        rintro e Wa ⟨A3, d3, rfl, ho3, hb3⟩
        have hg1 : Up wo Wa := ((Chg.refl _ wo).alloc _).trans (up_below hb3)
        have hi2 := input_any 4 (.slice (some ⟨Wa.heap.size, 0, none⟩) 1 1) [F2] F2 (Wa.alloc (.cells #[.slice B2 (32 * 67) c2] 22)) (rows1 Wa _ F2 (S2.out.up hg1) BB1.out) (by simp) (by have := LFB.out; omega)
        have HI2 := Lib.hid hi2
        have O3 := Lib.hid ho3
        have HUa := Lib.hid (HUo.out.trans hg1)
        clear hi2 ho3 hb3 hg1 HI1 S2 HUo
        go_wp2_with fail
        refine HI2.out.mono ?_
        rintro e Wb ⟨A4, d4, rfl, ho4, hb4⟩
        have hg2 : Up Wa Wb := ((Chg.refl _ Wa).alloc _).trans (up_below hb4)
        have s3 := own_src (own_up O3.out hg2)
        have s4 := own_src ho4
        rw [show (4 : Int) % 256 = 4 from rfl] at s3 s4
        have HUb := Lib.hid (HUa.out.trans hg2)
        have b3 : Bytes (4 :: F1) := Bytes.cons (by omega) BA1.out
        have b4 : Bytes (4 :: F2) := Bytes.cons (by omega) BB1.out
        have n34 := str_eq (4 :: F1) (4 :: F2) b3 b4
        have t3 := sl_string s3
        have t4 := sl_string s4
        have c3 := shaSum_any (4 :: F1) _ Wb s3 b3 (by have := LFA.out; rw [List.length_cons]; omega) (HLW.out.up HUb.out)
        have c4 : ∀ W, Up Wb W → Calls Tryd.prog 22 #[.slice A4 (1 + F2.length) d4] W (SumPost (4 :: F2) W) := fun W hW => shaSum_any (4 :: F2) _ W (s4.up hW) b4 (by have := LFB.out; rw [List.length_cons]; omega) (HLW.out.up (HUb.out.trans hW))
        unfold SumPost at c3 c4
        have hzl := hash_size (4 :: F1)
        rw [← HK2.out] at c4
        obtain ⟨z, hz⟩ : ∃ z, shaI (4 :: F1) = z := ⟨_, rfl⟩
        rw [hz] at c3 c4 hzl
        obtain ⟨st1, hst1⟩ : ∃ s, strOfNums (4 :: F1) = s := ⟨_, rfl⟩
        obtain ⟨st2, hst2⟩ : ∃ s, strOfNums (4 :: F2) = s := ⟨_, rfl⟩
        rw [hst1] at n34 t3
        rw [hst2] at n34 t4
        have HC3 := Lib.hid c3
        have HC4 := Lib.hid c4
        have HZL := Lib.hid hzl
        clear c3 c4 hzl hz hst1 hst2 s3 s4 b3 b4 hb4 ho4 hg2 O3 HI2 HUa
        by_cases hne : F1 = F2
        · have hrec := HINJ.out hne
          have HREC := Lib.hid hrec
          have n35 : (4 :: F1 == 4 :: F2) = true := by rw [hne]; exact beq_self_eq_true _
          rw [n35] at n34
          clear hrec hne n35 HINJ HC3 HC4 HZL
          go_wp2_with fail
          -- the second loop
          go_loopw [74] (fun i wr => ∃ (k : Nat), k ≤ 67 ∧ i = .int .i64 k ∧ Up Wb wr) (fun i _ => 67 - (intOf i).toNat)
          case atStart => exact ⟨0, by omega, rfl, Chg.refl _ _⟩
          case round =>
            rename World => wp
            obtain ⟨k, hk, rfl, hu⟩ := hrel
            by_cases hk2 : (k : Int) < 67
            · have hup : Up W1 wp := HUb.out.trans hu
              have hsk := HVW.out.lens k (by omega)
              have hrg := Rng.up (HRW.out k (by omega)) hup
              have ca1 := hup.drew.cell (HDA.out k (by omega)) (fun h => h)
              have cb1 := hup.drew.cell (HDB.out k (by omega)) (fun h => h)
              have cap := hup.cell (HDA.out k (by omega)) (fun h => h)
              have cbp := hup.cell (HDB.out k (by omega)) (fun h => h)
              have bda := digit_bd a HBA.out k (by omega)
              have bdb := digit_bd b HBB.out k (by omega)
              have hra := recI_at a sg 67 k (by omega)
              have hrb := recI_at b sg 67 k (by omega)
              rw [HREC.out, hrb] at hra
              clear hrb
              obtain ⟨da, hda⟩ : ∃ d, (digitsI a).getD k 0 = d := ⟨_, rfl⟩
              obtain ⟨db, hdb⟩ : ∃ d, (digitsI b).getD k 0 = d := ⟨_, rfl⟩
              obtain ⟨s0, hs0⟩ : ∃ s, sg.getD k [] = s := ⟨_, rfl⟩
              rw [hda] at ca1 cap bda hra
              rw [hdb] at cb1 cbp bdb hra
              rw [hs0] at hsk hrg hra
              have HS0L := Lib.hid hsk.1
              have HS0B := Lib.hid hsk.2
              have HRGp := Lib.hid (show wp.rangeAt b0 (off + k * 32) (u8s s0) by rw [Nat.mul_comm]; exact hrg)
              have CA := Lib.hid ca1
              have CAp := Lib.hid cap
              have CBp := Lib.hid cbp
              have CB := Lib.hid cb1
              have HEQ := Lib.hid hra
              have HUp := Lib.hid hu
              have HLAp := Lib.hid (HLW.out.up hup)
              obtain ⟨bda0, bda1⟩ := bda
              obtain ⟨bdb0, bdb1⟩ := bdb
              clear hup hsk hrg ca1 cb1 cap cbp hra hda hdb hs0 hu
              go_wp2_with fail
              refine region_mono Up [fun v _ => v = .slice (some ⟨ga, 0, none⟩) 67 ca,
                  fun v _ => v = .int .i64 k,
                  fun v _ => v = .pointer (some ⟨ga, k, none⟩),
                  fun v _ => v = .int .i64 da,
                  fun v _ => v = .slice (some ⟨gb, 0, none⟩) 67 cb,
                  fun v _ => v = .int .i64 k,
                  fun v _ => v = .pointer (some ⟨gb, k, none⟩),
                  fun v _ => v = .int .i64 db,
                  fun v _ => v = .bool (da == db)] (by kernel_rfl) (by kernel_rfl) (Chg.refl _) (fun _ _ _ => Chg.trans) (by simp) ?_ ?_ ?_
              · simp only [List.forall_mem_cons]
                exact ⟨fun _ _ _ _ _ h => h, fun _ _ _ _ _ h => h, fun _ _ _ _ _ h => h, fun _ _ _ _ _ h => h, fun _ _ _ _ _ h => h, fun _ _ _ _ _ h => h, fun _ _ _ _ _ h => h, fun _ _ _ _ _ h => h, fun _ _ _ _ _ h => h, by simp⟩
              · refine ⟨?_, ?_, ?_, ?_, ?_, ?_, ?_, ?_, ?_, trivial⟩
                · intro ρ w1 hw h0 hc hg hf hd
                  have s7 : ρ (.tmp 7) = .slice (some ⟨ga, 0, none⟩) 67 ca := h0 7 (by kernel_rfl)
                  refine ⟨fun _ => ?_, fun h => by cases h⟩
                  clear h0 hg hd
                  exact gives_move rfl ⟨Chg.refl _ _, s7⟩
                · intro ρ w1 hw h0 hc hg hf hd
                  have s16 : ρ (.tmp 16) = .int .i64 k := h0 16 (by kernel_rfl)
                  refine ⟨fun _ => ?_, fun h => by cases h⟩
                  clear h0 hg hd
                  exact gives_move rfl ⟨Chg.refl _ _, s16⟩
                · intro ρ w1 hw h0 hc hg hf hd
                  have d0 := hd ⟨0, .data⟩ (by simp) rfl _ _ _ rfl rfl rfl
                  have d1 := hd ⟨1, .data⟩ (by simp) rfl _ _ _ rfl rfl rfl
                  refine ⟨fun _ => ?_, fun h => by cases h⟩
                  clear h0 hg hd
                  clear hf
                  refine Gives.value (w' := w1) ?_ ⟨Chg.refl _ _, rfl⟩
                  go_simp
                · intro ρ w1 hw h0 hc hg hf hd
                  have d2 := hd ⟨2, .data⟩ (by simp) rfl _ _ _ rfl rfl rfl
                  refine ⟨fun _ => ?_, fun h => by cases h⟩
                  clear h0 hg hd
                  clear hc hf
                  have c0 := hw.cell CA.out (fun h => h)
                  refine Gives.value (w' := w1) ?_ ⟨Chg.refl _ _, rfl⟩
                  go_simp
                · intro ρ w1 hw h0 hc hg hf hd
                  have s8 : ρ (.tmp 8) = .slice (some ⟨gb, 0, none⟩) 67 cb := h0 8 (by kernel_rfl)
                  refine ⟨fun _ => ?_, fun h => by cases h⟩
                  clear h0 hg hd
                  exact gives_move rfl ⟨Chg.refl _ _, s8⟩
                · intro ρ w1 hw h0 hc hg hf hd
                  have s16 : ρ (.tmp 16) = .int .i64 k := h0 16 (by kernel_rfl)
                  refine ⟨fun _ => ?_, fun h => by cases h⟩
                  clear h0 hg hd
                  exact gives_move rfl ⟨Chg.refl _ _, s16⟩
                · intro ρ w1 hw h0 hc hg hf hd
                  have d4 := hd ⟨4, .data⟩ (by simp) rfl _ _ _ rfl rfl rfl
                  have d5 := hd ⟨5, .data⟩ (by simp) rfl _ _ _ rfl rfl rfl
                  refine ⟨fun _ => ?_, fun h => by cases h⟩
                  clear h0 hg hd
                  clear hf
                  refine Gives.value (w' := w1) ?_ ⟨Chg.refl _ _, rfl⟩
                  go_simp
                · intro ρ w1 hw h0 hc hg hf hd
                  have d6 := hd ⟨6, .data⟩ (by simp) rfl _ _ _ rfl rfl rfl
                  refine ⟨fun _ => ?_, fun h => by cases h⟩
                  clear h0 hg hd
                  clear hc hf
                  have c0 := hw.cell CB.out (fun h => h)
                  refine Gives.value (w' := w1) ?_ ⟨Chg.refl _ _, rfl⟩
                  go_simp
                · intro ρ w1 hw h0 hc hg hf hd
                  have d3 := hd ⟨3, .data⟩ (by simp) rfl _ _ _ rfl rfl rfl
                  have d7 := hd ⟨7, .data⟩ (by simp) rfl _ _ _ rfl rfl rfl
                  refine ⟨fun _ => ?_, fun h => by cases h⟩
                  clear h0 hg hd
                  clear hf
                  refine Gives.value (w' := w1) ?_ ⟨Chg.refl _ _, rfl⟩
                  go_simp
              · intro vs w8 hw hr
                have h8 := hr 8 _ rfl
                clear hr
                dsimp only [putsL, restL]
                simp only [Act.put, List.setIfInBounds_toArray, List.set_cons_zero, List.set_cons_succ]
                rw [h8]
                have HU8 := Lib.hid (HUp.out.trans ((Chg.refl (fun _ => False) wp).drew.trans hw))
                have HG8 := Lib.hid ((Chg.refl (fun _ => False) wp).drew.trans hw)
                clear hw h8
                by_cases hd : da = db
                · have hdt : (da == db) = true := by simpa using hd
                  rw [hdt]
                  go_wp2_with fail
                  go_roundw
                  case rel => exact ⟨k + 1, by omega, by go_num, HU8.out⟩
                  case measure => simp [intOf]; omega
                · have hdt : (da == db) = false := by simpa using hd
                  rw [hdt]
                  go_wp2_with fail
                  simp only [Nat.zero_add, Nat.reduceAdd]
                  obtain ⟨M, hM⟩ : ∃ M, M = max da db := ⟨_, rfl⟩
                  have HM := Lib.hid hM
                  have hM0 : 0 ≤ M := by omega
                  have hM15 : M ≤ 15 := by omega
                  have hMa : da ≤ M := by omega
                  have hMb : db ≤ M := by omega
                  clear hM
                  go_loopw [17] (fun i wr => ∃ (m : Nat), (m : Int) ≤ 15 ∧ M ≤ m ∧ i = .int .i64 ((m : Int) - 1) ∧ walkI s0 k da ((m : Int) - da).toNat = walkI s0 k db ((m : Int) - db).toNat ∧ Up w8 wr) (fun i _ => (intOf i + 1).toNat)
                  case atStart => exact ⟨15, by omega, hM15, rfl, HEQ.out.symm, Chg.refl _ _⟩
                  case round =>
                    rename World => wi
                    obtain ⟨m, hm, hMm, rfl, heq, hu⟩ := hrel
                    have hui : Up wp wi.drew := (HG8.out.trans hu).trans (Chg.refl _ _).drew
                    have ca2 := hui.cell CAp.out (fun h => h)
                    have cb2 := hui.cell CBp.out (fun h => h)
                    have CA2 := Lib.hid ca2
                    have CB2 := Lib.hid cb2
                    have HEQm := Lib.hid heq
                    have HUi := Lib.hid (HU8.out.trans hu)
                    have HGi := Lib.hid hu
                    have HRGi0 := Lib.hid (Rng.up HRGp.out (HG8.out.trans hu))
                    have HLAi0 := Lib.hid (HLAp.out.up (HG8.out.trans hu))
                    clear heq hu hui ca2 cb2
                    go_wp2_with fail
                    refine region_mono Up [fun v _ => v = .int .i64 ((m : Int) - 1),
                        fun v _ => v = .slice (some ⟨ga, 0, none⟩) 67 ca,
                        fun v _ => v = .int .i64 k,
                        fun v _ => v = .pointer (some ⟨ga, k, none⟩),
                        fun v _ => v = .int .i64 da,
                        fun v _ => v = .slice (some ⟨gb, 0, none⟩) 67 cb,
                        fun v _ => v = .int .i64 k,
                        fun v _ => v = .pointer (some ⟨gb, k, none⟩),
                        fun v _ => v = .int .i64 db,
                        fun v _ => v = .int .i64 M,
                        fun v _ => v = .bool (decide (M ≤ (m : Int) - 1))] (by kernel_rfl) (by kernel_rfl) (Chg.refl _) (fun _ _ _ => Chg.trans) (by simp) ?_ ?_ ?_
                    · simp only [List.forall_mem_cons]
                      exact ⟨fun _ _ _ _ _ h => h, fun _ _ _ _ _ h => h, fun _ _ _ _ _ h => h, fun _ _ _ _ _ h => h, fun _ _ _ _ _ h => h, fun _ _ _ _ _ h => h, fun _ _ _ _ _ h => h, fun _ _ _ _ _ h => h, fun _ _ _ _ _ h => h, fun _ _ _ _ _ h => h, fun _ _ _ _ _ h => h, by simp⟩
                    · refine ⟨?_, ?_, ?_, ?_, ?_, ?_, ?_, ?_, ?_, ?_, ?_, trivial⟩
                      · intro ρ w1 hw h0 hc hg hf hd
                        have s17 : ρ (.tmp 17) = .int .i64 ((m : Int) - 1) := h0 17 (by kernel_rfl)
                        refine ⟨fun _ => ?_, fun h => by cases h⟩
                        clear h0 hg hd
                        exact gives_move rfl ⟨Chg.refl _ _, s17⟩
                      · intro ρ w1 hw h0 hc hg hf hd
                        have s7 : ρ (.tmp 7) = .slice (some ⟨ga, 0, none⟩) 67 ca := h0 7 (by kernel_rfl)
                        refine ⟨fun _ => ?_, fun h => by cases h⟩
                        clear h0 hg hd
                        exact gives_move rfl ⟨Chg.refl _ _, s7⟩
                      · intro ρ w1 hw h0 hc hg hf hd
                        have s16 : ρ (.tmp 16) = .int .i64 k := h0 16 (by kernel_rfl)
                        refine ⟨fun _ => ?_, fun h => by cases h⟩
                        clear h0 hg hd
                        exact gives_move rfl ⟨Chg.refl _ _, s16⟩
                      · intro ρ w1 hw h0 hc hg hf hd
                        have d1 := hd ⟨1, .data⟩ (by simp) rfl _ _ _ rfl rfl rfl
                        have d2 := hd ⟨2, .data⟩ (by simp) rfl _ _ _ rfl rfl rfl
                        refine ⟨fun _ => ?_, fun h => by cases h⟩
                        clear h0 hg hd
                        clear hf
                        refine Gives.value (w' := w1) ?_ ⟨Chg.refl _ _, rfl⟩
                        go_simp
                      · intro ρ w1 hw h0 hc hg hf hd
                        have d3 := hd ⟨3, .data⟩ (by simp) rfl _ _ _ rfl rfl rfl
                        refine ⟨fun _ => ?_, fun h => by cases h⟩
                        clear h0 hg hd
                        clear hc hf
                        have c0 := hw.cell CA2.out (fun h => h)
                        refine Gives.value (w' := w1) ?_ ⟨Chg.refl _ _, rfl⟩
                        go_simp
                      · intro ρ w1 hw h0 hc hg hf hd
                        have s8 : ρ (.tmp 8) = .slice (some ⟨gb, 0, none⟩) 67 cb := h0 8 (by kernel_rfl)
                        refine ⟨fun _ => ?_, fun h => by cases h⟩
                        clear h0 hg hd
                        exact gives_move rfl ⟨Chg.refl _ _, s8⟩
                      · intro ρ w1 hw h0 hc hg hf hd
                        have s16 : ρ (.tmp 16) = .int .i64 k := h0 16 (by kernel_rfl)
                        refine ⟨fun _ => ?_, fun h => by cases h⟩
                        clear h0 hg hd
                        exact gives_move rfl ⟨Chg.refl _ _, s16⟩
                      · intro ρ w1 hw h0 hc hg hf hd
                        have d5 := hd ⟨5, .data⟩ (by simp) rfl _ _ _ rfl rfl rfl
                        have d6 := hd ⟨6, .data⟩ (by simp) rfl _ _ _ rfl rfl rfl
                        refine ⟨fun _ => ?_, fun h => by cases h⟩
                        clear h0 hg hd
                        clear hf
                        refine Gives.value (w' := w1) ?_ ⟨Chg.refl _ _, rfl⟩
                        go_simp
                      · intro ρ w1 hw h0 hc hg hf hd
                        have d7 := hd ⟨7, .data⟩ (by simp) rfl _ _ _ rfl rfl rfl
                        refine ⟨fun _ => ?_, fun h => by cases h⟩
                        clear h0 hg hd
                        clear hc hf
                        have c0 := hw.cell CB2.out (fun h => h)
                        refine Gives.value (w' := w1) ?_ ⟨Chg.refl _ _, rfl⟩
                        go_simp
                      · intro ρ w1 hw h0 hc hg hf hd
                        have d4 := hd ⟨4, .data⟩ (by simp) rfl _ _ _ rfl rfl rfl
                        have d8 := hd ⟨8, .data⟩ (by simp) rfl _ _ _ rfl rfl rfl
                        refine ⟨fun _ => ?_, fun h => by cases h⟩
                        clear h0 hg hd
                        clear hc hf
                        refine Gives.value (w' := w1) ?_ ⟨Chg.refl _ _, rfl⟩
                        rw [HM.out]
                        go_simp
                        split <;> omega
                      · intro ρ w1 hw h0 hc hg hf hd
                        have d0 := hd ⟨0, .data⟩ (by simp) rfl _ _ _ rfl rfl rfl
                        have d9 := hd ⟨9, .data⟩ (by simp) rfl _ _ _ rfl rfl rfl
                        refine ⟨fun _ => ?_, fun h => by cases h⟩
                        clear h0 hg hd
                        clear hf
                        refine Gives.value (w' := w1) ?_ ⟨Chg.refl _ _, rfl⟩
                        go_simp
                    · intro vs w9 hw hr
                      have h10 := hr 10 _ rfl
                      clear hr
                      dsimp only [putsL, restL]
                      simp only [Act.put, List.setIfInBounds_toArray, List.set_cons_zero, List.set_cons_succ]
                      rw [h10]
                      have hg9 : Up wi w9 := (Chg.refl (fun _ => False) wi).drew.trans hw
                      have HG9 := Lib.hid hg9
                      clear hw h10
                      by_cases hge : M ≤ (m : Int) - 1
                      · have hdec : decide (M ≤ (m : Int) - 1) = true := by simpa using hge
                        rw [hdec]
                        have hl1 := walkI_len s0 k da ((m : Int) - 1 - da).toNat HS0L.out
                        have hl2 := walkI_len s0 k db ((m : Int) - 1 - db).toNat HS0L.out
                        have hb1' := walkI_bytes s0 k da ((m : Int) - 1 - da).toNat HS0B.out
                        have hb2' := walkI_bytes s0 k db ((m : Int) - 1 - db).toNat HS0B.out
                        have hst1 := walkI_succ s0 k da ((m : Int) - 1 - da).toNat
                        have hst2 := walkI_succ s0 k db ((m : Int) - 1 - db).toNat
                        rw [show ((m : Int) - 1 - da).toNat + 1 = ((m : Int) - da).toNat by omega, show da + (((m : Int) - 1 - da).toNat : Int) = (m : Int) - 1 by omega] at hst1
                        rw [show ((m : Int) - 1 - db).toNat + 1 = ((m : Int) - db).toNat by omega, show db + (((m : Int) - 1 - db).toNat : Int) = (m : Int) - 1 by omega, ← HEQm.out] at hst2
                        have hzl := walkI_len s0 k da ((m : Int) - da).toNat HS0L.out
                        obtain ⟨z1, hz1⟩ : ∃ x, walkI s0 k da ((m : Int) - da).toNat = x := ⟨_, rfl⟩
                        obtain ⟨x1, hx1⟩ : ∃ x, walkI s0 k da ((m : Int) - 1 - da).toNat = x := ⟨_, rfl⟩
                        obtain ⟨x2, hx2⟩ : ∃ x, walkI s0 k db ((m : Int) - 1 - db).toNat = x := ⟨_, rfl⟩
                        rw [hz1] at hst1 hst2 hzl
                        rw [hx1] at hl1 hb1' hst1
                        rw [hx2] at hl2 hb2' hst2
                        obtain ⟨y1, hy1, hyu1, hyo1, _, hys1, hyz1⟩ := hash_parts x1 hl1
                        obtain ⟨y2, hy2, hyu2, hyo2, _, hys2, hyz2⟩ := hash_parts x2 hl2
                        have EX1 := Lib.hid hx1
                        have EX2 := Lib.hid hx2
                        have HX1L := Lib.hid hl1
                        have HX2L := Lib.hid hl2
                        have HX1B := Lib.hid hb1'
                        have HX2B := Lib.hid hb2'
                        have HX1S := Lib.hid hst1.symm
                        have HX2S := Lib.hid hst2.symm
                        have HZL1 := Lib.hid hzl
                        have HY1 := Lib.hid hy1
                        have HY2 := Lib.hid hy2
                        have HYO1 := Lib.hid hyo1
                        have HYO2 := Lib.hid hyo2
                        have HYS1 := Lib.hid hys1
                        have HYS2 := Lib.hid hys2
                        have HYZ1 := Lib.hid hyz1
                        have HYZ2 := Lib.hid hyz2
                        clear hl1 hl2 hb1' hb2' hst1 hst2 hzl hz1 hx1 hx2 hy1 hyu1 hyo1 hys1 hyz1 hy2 hyu2 hyo2 hys2 hyz2 hdec
                        go_wp2_with fail
                        have hgd : Up wi w9.drew := HG9.out.trans (Chg.refl _ _).drew
                        have HRGi := Lib.hid (Rng.up HRGi0.out hgd)
                        have HLAi := Lib.hid (HLAi0.out.up hgd)
                        have hgp : Up wp w9.drew := (HG8.out.trans HGi.out).trans hgd
                        have CA3 := Lib.hid (hgp.cell CAp.out (fun h => h))
                        have CB3 := Lib.hid (hgp.cell CBp.out (fun h => h))
                        clear hgd hgp
                        refine region_monoD (fun j => j == 22 || j == 23) (fun v u => v ≠ u) Up [fun v _ => v = .slice (some ⟨b0, off, none⟩) 67 ac,
                            fun v _ => v = .int .i64 k,
                            fun v _ => v = .pointer (some ⟨b0, off + k * 32, none⟩),
                            fun v _ => v = hashV s0,
                            fun v _ => v = .int .i64 k,
                            fun v _ => v = .slice (some ⟨ga, 0, none⟩) 67 ca,
                            fun v _ => v = .int .i64 k,
                            fun v _ => v = .pointer (some ⟨ga, k, none⟩),
                            fun v _ => v = .int .i64 da,
                            fun v _ => v = .int .i64 ((m : Int) - 1),
                            fun v _ => v = hashV x1,
                            fun v _ => v = .slice (some ⟨b0, off, none⟩) 67 ac,
                            fun v _ => v = .int .i64 k,
                            fun v _ => v = .pointer (some ⟨b0, off + k * 32, none⟩),
                            fun v _ => v = hashV s0,
                            fun v _ => v = .int .i64 k,
                            fun v _ => v = .slice (some ⟨gb, 0, none⟩) 67 cb,
                            fun v _ => v = .int .i64 k,
                            fun v _ => v = .pointer (some ⟨gb, k, none⟩),
                            fun v _ => v = .int .i64 db,
                            fun v _ => v = .int .i64 ((m : Int) - 1),
                            fun v _ => v = hashV x2,
                            ZB w9.drew.heap.size,
                            ZB w9.drew.heap.size] (by kernel_rfl) (by kernel_rfl) (Chg.refl _) (fun _ _ _ => Chg.trans) (by simp) ?_ ?_ ?_ ?_ ?_ ?_
                        · simp only [List.forall_mem_cons]
                          exact ⟨fun _ _ _ _ _ h => h, fun _ _ _ _ _ h => h, fun _ _ _ _ _ h => h, fun _ _ _ _ _ h => h, fun _ _ _ _ _ h => h, fun _ _ _ _ _ h => h, fun _ _ _ _ _ h => h, fun _ _ _ _ _ h => h, fun _ _ _ _ _ h => h, fun _ _ _ _ _ h => h, fun _ _ _ _ _ h => h, fun _ _ _ _ _ h => h, fun _ _ _ _ _ h => h, fun _ _ _ _ _ h => h, fun _ _ _ _ _ h => h, fun _ _ _ _ _ h => h, fun _ _ _ _ _ h => h, fun _ _ _ _ _ h => h, fun _ _ _ _ _ h => h, fun _ _ _ _ _ h => h, fun _ _ _ _ _ h => h, fun _ _ _ _ _ h => h, fun _ _ _ _ hu h => ZB.up h hu, fun _ _ _ _ hu h => ZB.up h hu, by simp⟩
                        · refine ⟨?_, ?_, ?_, ?_, ?_, ?_, ?_, ?_, ?_, ?_, ?_, ?_, ?_, ?_, ?_, ?_, ?_, ?_, ?_, ?_, ?_, ?_, ?_, ?_, trivial⟩
                          · intro ρ w1 hw h0 hc hg hf hd
                            have s2 : ρ (.tmp 2) = .slice (some ⟨b0, off, none⟩) 67 ac := h0 2 (by kernel_rfl)
                            refine ⟨fun _ => ?_, fun h => by cases h⟩
                            clear h0 hg hd
                            exact gives_move rfl ⟨Chg.refl _ _, s2⟩
                          · intro ρ w1 hw h0 hc hg hf hd
                            have s16 : ρ (.tmp 16) = .int .i64 k := h0 16 (by kernel_rfl)
                            refine ⟨fun _ => ?_, fun h => by cases h⟩
                            clear h0 hg hd
                            exact gives_move rfl ⟨Chg.refl _ _, s16⟩
                          · intro ρ w1 hw h0 hc hg hf hd
                            have d0 := hd ⟨0, .data⟩ (by simp) rfl _ _ _ rfl rfl rfl
                            have d1 := hd ⟨1, .data⟩ (by simp) rfl _ _ _ rfl rfl rfl
                            refine ⟨fun _ => ?_, fun h => by cases h⟩
                            clear h0 hg hd
                            clear hf
                            refine Gives.value (w' := w1) ?_ ⟨Chg.refl _ _, rfl⟩
                            go_simp
                          · intro ρ w1 hw h0 hc hg hf hd
                            have d2 := hd ⟨2, .data⟩ (by simp) rfl _ _ _ rfl rfl rfl
                            refine ⟨fun _ => ?_, fun h => by cases h⟩
                            clear h0 hg hd
                            exact gives_hash rfl d2 HS0L.out (Rng.up HRGi.out hw) ⟨Chg.refl _ _, rfl⟩
                          · intro ρ w1 hw h0 hc hg hf hd
                            have s16 : ρ (.tmp 16) = .int .i64 k := h0 16 (by kernel_rfl)
                            refine ⟨fun _ => ?_, fun h => by cases h⟩
                            clear h0 hg hd
                            exact gives_move rfl ⟨Chg.refl _ _, s16⟩
                          · intro ρ w1 hw h0 hc hg hf hd
                            have s7 : ρ (.tmp 7) = .slice (some ⟨ga, 0, none⟩) 67 ca := h0 7 (by kernel_rfl)
                            refine ⟨fun _ => ?_, fun h => by cases h⟩
                            clear h0 hg hd
                            exact gives_move rfl ⟨Chg.refl _ _, s7⟩
                          · intro ρ w1 hw h0 hc hg hf hd
                            have s16 : ρ (.tmp 16) = .int .i64 k := h0 16 (by kernel_rfl)
                            refine ⟨fun _ => ?_, fun h => by cases h⟩
                            clear h0 hg hd
                            exact gives_move rfl ⟨Chg.refl _ _, s16⟩
                          · intro ρ w1 hw h0 hc hg hf hd
                            have d5 := hd ⟨5, .data⟩ (by simp) rfl _ _ _ rfl rfl rfl
                            have d6 := hd ⟨6, .data⟩ (by simp) rfl _ _ _ rfl rfl rfl
                            refine ⟨fun _ => ?_, fun h => by cases h⟩
                            clear h0 hg hd
                            clear hf
                            refine Gives.value (w' := w1) ?_ ⟨Chg.refl _ _, rfl⟩
                            go_simp
                          · intro ρ w1 hw h0 hc hg hf hd
                            have d7 := hd ⟨7, .data⟩ (by simp) rfl _ _ _ rfl rfl rfl
                            refine ⟨fun _ => ?_, fun h => by cases h⟩
                            clear h0 hg hd
                            clear hc hf
                            have c0 := hw.cell CA3.out (fun h => h)
                            refine Gives.value (w' := w1) ?_ ⟨Chg.refl _ _, rfl⟩
                            go_simp
                          · intro ρ w1 hw h0 hc hg hf hd
                            have s17 : ρ (.tmp 17) = .int .i64 ((m : Int) - 1) := h0 17 (by kernel_rfl)
                            refine ⟨fun _ => ?_, fun h => by cases h⟩
                            clear h0 hg hd
                            exact gives_move rfl ⟨Chg.refl _ _, s17⟩
                          · intro ρ w1 hw h0 hc hg hf hd
                            have d3 := hd ⟨3, .data⟩ (by simp) rfl _ _ _ rfl rfl rfl
                            have d4 := hd ⟨4, .data⟩ (by simp) rfl _ _ _ rfl rfl rfl
                            have d8 := hd ⟨8, .data⟩ (by simp) rfl _ _ _ rfl rfl rfl
                            have d9 := hd ⟨9, .data⟩ (by simp) rfl _ _ _ rfl rfl rfl
                            refine ⟨fun _ => ?_, fun h => by cases h⟩
                            clear h0 hg hd
                            have hcl := walked_any s0 k da ((m : Int) - 1) w1 HS0L.out HS0B.out ⟨by omega, by omega⟩ ⟨by omega, by omega⟩ ⟨by omega, by omega⟩ (HLAi.out.up hw)
                            unfold HashPost at hcl
                            rw [EX1.out] at hcl
                            refine gives_call rfl hf Tryd.func48 rfl (by kernel_rfl) (args := #[hashV s0, .int .i64 k, .int .i64 da, .int .i64 ((m : Int) - 1)]) (by simp [hc, d3, d4, d8, d9]) (hcl.mono ?_)
                            rintro e w2 ⟨rfl, hb⟩
                            exact ⟨_, rfl, up_below hb, rfl⟩
                          · intro ρ w1 hw h0 hc hg hf hd
                            have s2 : ρ (.tmp 2) = .slice (some ⟨b0, off, none⟩) 67 ac := h0 2 (by kernel_rfl)
                            refine ⟨fun _ => ?_, fun h => by cases h⟩
                            clear h0 hg hd
                            exact gives_move rfl ⟨Chg.refl _ _, s2⟩
                          · intro ρ w1 hw h0 hc hg hf hd
                            have s16 : ρ (.tmp 16) = .int .i64 k := h0 16 (by kernel_rfl)
                            refine ⟨fun _ => ?_, fun h => by cases h⟩
                            clear h0 hg hd
                            exact gives_move rfl ⟨Chg.refl _ _, s16⟩
                          · intro ρ w1 hw h0 hc hg hf hd
                            have d11 := hd ⟨11, .data⟩ (by simp) rfl _ _ _ rfl rfl rfl
                            have d12 := hd ⟨12, .data⟩ (by simp) rfl _ _ _ rfl rfl rfl
                            refine ⟨fun _ => ?_, fun h => by cases h⟩
                            clear h0 hg hd
                            clear hf
                            refine Gives.value (w' := w1) ?_ ⟨Chg.refl _ _, rfl⟩
                            go_simp
                          · intro ρ w1 hw h0 hc hg hf hd
                            have d13 := hd ⟨13, .data⟩ (by simp) rfl _ _ _ rfl rfl rfl
                            refine ⟨fun _ => ?_, fun h => by cases h⟩
                            clear h0 hg hd
                            exact gives_hash rfl d13 HS0L.out (Rng.up HRGi.out hw) ⟨Chg.refl _ _, rfl⟩
                          · intro ρ w1 hw h0 hc hg hf hd
                            have s16 : ρ (.tmp 16) = .int .i64 k := h0 16 (by kernel_rfl)
                            refine ⟨fun _ => ?_, fun h => by cases h⟩
                            clear h0 hg hd
                            exact gives_move rfl ⟨Chg.refl _ _, s16⟩
                          · intro ρ w1 hw h0 hc hg hf hd
                            have s8 : ρ (.tmp 8) = .slice (some ⟨gb, 0, none⟩) 67 cb := h0 8 (by kernel_rfl)
                            refine ⟨fun _ => ?_, fun h => by cases h⟩
                            clear h0 hg hd
                            exact gives_move rfl ⟨Chg.refl _ _, s8⟩
                          · intro ρ w1 hw h0 hc hg hf hd
                            have s16 : ρ (.tmp 16) = .int .i64 k := h0 16 (by kernel_rfl)
                            refine ⟨fun _ => ?_, fun h => by cases h⟩
                            clear h0 hg hd
                            exact gives_move rfl ⟨Chg.refl _ _, s16⟩
                          · intro ρ w1 hw h0 hc hg hf hd
                            have d16 := hd ⟨16, .data⟩ (by simp) rfl _ _ _ rfl rfl rfl
                            have d17 := hd ⟨17, .data⟩ (by simp) rfl _ _ _ rfl rfl rfl
                            refine ⟨fun _ => ?_, fun h => by cases h⟩
                            clear h0 hg hd
                            clear hf
                            refine Gives.value (w' := w1) ?_ ⟨Chg.refl _ _, rfl⟩
                            go_simp
                          · intro ρ w1 hw h0 hc hg hf hd
                            have d18 := hd ⟨18, .data⟩ (by simp) rfl _ _ _ rfl rfl rfl
                            refine ⟨fun _ => ?_, fun h => by cases h⟩
                            clear h0 hg hd
                            clear hc hf
                            have c0 := hw.cell CB3.out (fun h => h)
                            refine Gives.value (w' := w1) ?_ ⟨Chg.refl _ _, rfl⟩
                            go_simp
                          · intro ρ w1 hw h0 hc hg hf hd
                            have s17 : ρ (.tmp 17) = .int .i64 ((m : Int) - 1) := h0 17 (by kernel_rfl)
                            refine ⟨fun _ => ?_, fun h => by cases h⟩
                            clear h0 hg hd
                            exact gives_move rfl ⟨Chg.refl _ _, s17⟩
                          · intro ρ w1 hw h0 hc hg hf hd
                            have d14 := hd ⟨14, .data⟩ (by simp) rfl _ _ _ rfl rfl rfl
                            have d15 := hd ⟨15, .data⟩ (by simp) rfl _ _ _ rfl rfl rfl
                            have d19 := hd ⟨19, .data⟩ (by simp) rfl _ _ _ rfl rfl rfl
                            have d20 := hd ⟨20, .data⟩ (by simp) rfl _ _ _ rfl rfl rfl
                            refine ⟨fun _ => ?_, fun h => by cases h⟩
                            clear h0 hg hd
                            have hcl := walked_any s0 k db ((m : Int) - 1) w1 HS0L.out HS0B.out ⟨by omega, by omega⟩ ⟨by omega, by omega⟩ ⟨by omega, by omega⟩ (HLAi.out.up hw)
                            unfold HashPost at hcl
                            rw [EX2.out] at hcl
                            refine gives_call rfl hf Tryd.func48 rfl (by kernel_rfl) (args := #[hashV s0, .int .i64 k, .int .i64 db, .int .i64 ((m : Int) - 1)]) (by simp [hc, d14, d15, d19, d20]) (hcl.mono ?_)
                            rintro e w2 ⟨rfl, hb⟩
                            exact ⟨_, rfl, up_below hb, rfl⟩
                          · intro ρ w1 hw h0 hc hg hf hd
                            refine ⟨fun _ => ?_, fun h => by cases h⟩
                            clear h0 hg hd
                            exact (gives_zero _ hw.size rfl).mono fun v w2 ⟨hu, hz, _⟩ => ⟨hu, hz⟩
                          · intro ρ w1 hw h0 hc hg hf hd
                            refine ⟨fun _ => ?_, fun h => by cases h⟩
                            clear h0 hg hd
                            exact (gives_zero _ hw.size rfl).mono fun v w2 ⟨hu, hz, _⟩ => ⟨hu, hz⟩
                        · intro i o hi ho
                          have h : i = 22 ∨ i = 23 := by simpa using hi
                          rcases h with rfl | rfl
                          all_goals (injection ho with ho; subst ho; rfl)
                        · intro i hi
                          have h : i = 22 ∨ i = 23 := by simpa using hi
                          rcases h with rfl | rfl <;> simp
                        · intro i o r hi ho hr ρ w1 hw
                          have h : i = 22 ∨ i = 23 := by simpa using hi
                          rcases h with rfl | rfl
                          · injection ho with ho
                            injection hr with hr
                            subst ho hr
                            refine (gives_zero _ hw.size rfl).mono ?_
                            rintro v w2 ⟨hu, hz, hap⟩
                            refine ⟨hu, hz, fun j rj u hj hji hrj hu2 => ?_⟩
                            have h : j = 22 ∨ j = 23 := by simpa using hj
                            rcases h with rfl | rfl
                            · exact absurd rfl hji
                            · injection hrj with hrj
                              subst hrj
                              exact hap u hu2
                          · injection ho with ho
                            injection hr with hr
                            subst ho hr
                            refine (gives_zero _ hw.size rfl).mono ?_
                            rintro v w2 ⟨hu, hz, hap⟩
                            refine ⟨hu, hz, fun j rj u hj hji hrj hu2 => ?_⟩
                            have h : j = 22 ∨ j = 23 := by simpa using hj
                            rcases h with rfl | rfl
                            · injection hrj with hrj
                              subst hrj
                              exact hap u hu2
                            · exact absurd rfl hji
                        · intro vs w5 hw hr hapart
                          have h10 := hr 10 _ rfl
                          have h21 := hr 21 _ rfl
                          have h22 := hr 22 _ rfl
                          have h23 := hr 23 _ rfl
                          clear hr
                          dsimp only [putsL, restL]
                          simp only [Act.put, List.setIfInBounds_toArray, List.set_cons_zero, List.set_cons_succ]
                          obtain ⟨P1, e22, hp1, hz1⟩ := h22
                          obtain ⟨P2, e23, hp2, hz2⟩ := h23
                          have hne12 : P1 ≠ P2 := fun he => hapart 22 23 rfl rfl (by decide) (by rw [e22, e23, he])
                          rw [h10, h21, e22, e23, HY1.out, HY2.out]
                          have hwz : w9.heap.size ≤ P1 := hp1
                          have hwz2 : w9.heap.size ≤ P2 := hp2
                          have Z1 := Lib.hid hz1
                          have Z2 := Lib.hid hz2
                          have HW5 := Lib.hid ((Chg.refl (fun _ => False) w9).drew.trans hw)
                          have HD1 := Lib.hid (show (List.replicate 32 (Value.int .u8 0)).toArray.size = y1.size by rw [HYZ1.out]; rfl)
                          have HD2 := Lib.hid (show (List.replicate 32 (Value.int .u8 0)).toArray.size = y2.size by rw [HYZ2.out]; rfl)
                          have HL1 : Hid (((w5.setRow P1 y1).setRow P2 y2).heap[P1]? = some (.cells y1 25 (0, 0))) := Lib.hid ((setRow_other _ _ _ _ hne12).trans (setRow_same _ _ y1 _ 25 (0, 0) Z1.out))
                          have HL2 : Hid (((w5.setRow P1 y1).setRow P2 y2).heap[P2]? = some (.cells y2 25 (0, 0))) := Lib.hid (setRow_same _ _ y2 _ 25 (0, 0) ((setRow_other _ _ _ _ (Ne.symm hne12)).trans Z2.out))
                          have HW6 := Lib.hid (show Up w9 ((w5.setRow P1 y1).setRow P2 y2) from (HW5.out.setRow P1 (.inr hwz) y1).setRow P2 (.inr hwz2) y2)
                          have q1 := neq25 x1 x2 HX1L.out HX2L.out
                          have q2 := guard25 .neq (.tmp 121) (.tmp 122) x1 x2
                          rw [HY1.out, HY2.out] at q1 q2
                          clear hw h10 h21 e22 e23 hz1 hz2 hapart hp1 hp2
                          by_cases hx : x1 = x2
                          · have hxb : (x1 == x2) = true := by simpa using hx
                            rw [hxb, Bool.not_true] at q1
                            go_wp2_with (first
                              | refine wpList_store_row rfl 25 (.tmp 18) (.tmp 109) rfl P1 y1 (by rfl) (by rfl) 25 _ Z1.out HYS1.out HD1.out HYO1.out ?_
                              | refine wpList_store_row rfl 25 (.tmp 19) (.tmp 120) rfl P2 y2 (by rfl) (by rfl) 25 _ ((setRow_other _ _ _ _ (Ne.symm hne12)).trans Z2.out) HYS2.out HD2.out HYO2.out ?_
                              | refine wpList_load_row rfl 25 (.tmp 18) rfl P1 (by rfl) 25 y1 (0, 0) _ HL1.out Tryd.underlying25 rfl HYS1.out ?_
                              | refine wpList_load_row rfl 25 (.tmp 19) rfl P2 (by rfl) 25 y2 (0, 0) _ HL2.out Tryd.underlying25 rfl HYS2.out ?_)
                            go_roundw
                            case rel =>
                              refine ⟨m - 1, by omega, by omega, ?_, ?_, (HGi.out.trans HG9.out).trans HW6.out⟩
                              · rw [show ((m - 1 : Nat) : Int) = (m : Int) - 1 by omega]
                              · rw [show ((m - 1 : Nat) : Int) = (m : Int) - 1 by omega, EX1.out, EX2.out]; exact hx
                            case measure => simp [intOf]; omega
                          · have hxb : (x1 == x2) = false := by simpa using hx
                            rw [hxb, Bool.not_false] at q1
                            have HLA6 := Lib.hid (show Laid ((w5.setRow P1 y1).setRow P2 y2).drew from (HLAi0.out.up (HG9.out.trans HW6.out)).up (Chg.refl _ _).drew)
                            go_wp2_with (first
                              | refine wpList_store_row rfl 25 (.tmp 18) (.tmp 109) rfl P1 y1 (by rfl) (by rfl) 25 _ Z1.out HYS1.out HD1.out HYO1.out ?_
                              | refine wpList_store_row rfl 25 (.tmp 19) (.tmp 120) rfl P2 y2 (by rfl) (by rfl) 25 _ ((setRow_other _ _ _ _ (Ne.symm hne12)).trans Z2.out) HYS2.out HD2.out HYO2.out ?_
                              | refine wpList_load_row rfl 25 (.tmp 18) rfl P1 (by rfl) 25 y1 (0, 0) _ HL1.out Tryd.underlying25 rfl HYS1.out ?_
                              | refine wpList_load_row rfl 25 (.tmp 19) rfl P2 (by rfl) 25 y2 (0, 0) _ HL2.out Tryd.underlying25 rfl HYS2.out ?_)
                            have HR1 : Hid (((w5.setRow P1 y1).setRow P2 y2).drew.heap[P1]? = some (.cells y1 25 (0, 0))) := HL1
                            have HR2 : Hid (((w5.setRow P1 y1).setRow P2 y2).drew.heap[P2]? = some (.cells y2 25 (0, 0))) := HL2
                            refine region_mono Up [fun v _ => v = hashV x1,
                                fun v _ => v = .int .i64 k,
                                fun v _ => v = .int .i64 ((m : Int) - 1),
                                fun v _ => v = hashV z1,
                                fun v _ => v = hashV x2,
                                fun v _ => v = .int .i64 k,
                                fun v _ => v = .int .i64 ((m : Int) - 1),
                                fun v _ => v = hashV z1,
                                fun v _ => v = .bool true,
                                fun v _ => v = .bool true] (by kernel_rfl) (by kernel_rfl) (Chg.refl _) (fun _ _ _ => Chg.trans) (by simp) ?_ ?_ ?_
                            · simp only [List.forall_mem_cons]
                              exact ⟨fun _ _ _ _ _ h => h, fun _ _ _ _ _ h => h, fun _ _ _ _ _ h => h, fun _ _ _ _ _ h => h, fun _ _ _ _ _ h => h, fun _ _ _ _ _ h => h, fun _ _ _ _ _ h => h, fun _ _ _ _ _ h => h, fun _ _ _ _ _ h => h, fun _ _ _ _ _ h => h, by simp⟩
                            · refine ⟨?_, ?_, ?_, ?_, ?_, ?_, ?_, ?_, ?_, ?_, trivial⟩
                              · intro ρ w1 hw h0 hc hg hf hd
                                have s18 : ρ (.tmp 18) = .pointer (some ⟨P1, 0, none⟩) := h0 18 (by kernel_rfl)
                                refine ⟨fun _ => ?_, fun h => by cases h⟩
                                clear h0 hg hd
                                clear hc hf
                                rw [HY1.out]
                                exact gives_load_row rfl s18 (hw.heap HR1.out (fun h => h)) Tryd.underlying25 rfl HYS1.out ⟨Chg.refl _ _, rfl⟩
                              · intro ρ w1 hw h0 hc hg hf hd
                                have s16 : ρ (.tmp 16) = .int .i64 k := h0 16 (by kernel_rfl)
                                refine ⟨fun _ => ?_, fun h => by cases h⟩
                                clear h0 hg hd
                                exact gives_move rfl ⟨Chg.refl _ _, s16⟩
                              · intro ρ w1 hw h0 hc hg hf hd
                                have s17 : ρ (.tmp 17) = .int .i64 ((m : Int) - 1) := h0 17 (by kernel_rfl)
                                refine ⟨fun _ => ?_, fun h => by cases h⟩
                                clear h0 hg hd
                                exact gives_move rfl ⟨Chg.refl _ _, s17⟩
                              · intro ρ w1 hw h0 hc hg hf hd
                                have d0 := hd ⟨0, .data⟩ (by simp) rfl _ _ _ rfl rfl rfl
                                have d1 := hd ⟨1, .data⟩ (by simp) rfl _ _ _ rfl rfl rfl
                                have d2 := hd ⟨2, .data⟩ (by simp) rfl _ _ _ rfl rfl rfl
                                refine ⟨fun _ => ?_, fun h => by cases h⟩
                                clear h0 hg hd
                                have hcl := chain_any x1 k ((m : Int) - 1) w1 HX1L.out HX1B.out (by omega) (by omega) (by omega) (by omega) (HLA6.out.up hw)
                                unfold SumPost at hcl
                                rw [stepI_eq, HX1S.out] at hcl
                                refine gives_call rfl hf Tryd.func42 rfl (by kernel_rfl) (args := #[hashV x1, .int .i64 k, .int .i64 ((m : Int) - 1)]) (by simp [hc, d0, d1, d2]) (hcl.mono ?_)
                                rintro e w2 ⟨rfl, hb⟩
                                exact ⟨_, rfl, up_below hb, rfl⟩
                              · intro ρ w1 hw h0 hc hg hf hd
                                have s19 : ρ (.tmp 19) = .pointer (some ⟨P2, 0, none⟩) := h0 19 (by kernel_rfl)
                                refine ⟨fun _ => ?_, fun h => by cases h⟩
                                clear h0 hg hd
                                clear hc hf
                                rw [HY2.out]
                                exact gives_load_row rfl s19 (hw.heap HR2.out (fun h => h)) Tryd.underlying25 rfl HYS2.out ⟨Chg.refl _ _, rfl⟩
                              · intro ρ w1 hw h0 hc hg hf hd
                                have s16 : ρ (.tmp 16) = .int .i64 k := h0 16 (by kernel_rfl)
                                refine ⟨fun _ => ?_, fun h => by cases h⟩
                                clear h0 hg hd
                                exact gives_move rfl ⟨Chg.refl _ _, s16⟩
                              · intro ρ w1 hw h0 hc hg hf hd
                                have s17 : ρ (.tmp 17) = .int .i64 ((m : Int) - 1) := h0 17 (by kernel_rfl)
                                refine ⟨fun _ => ?_, fun h => by cases h⟩
                                clear h0 hg hd
                                exact gives_move rfl ⟨Chg.refl _ _, s17⟩
                              · intro ρ w1 hw h0 hc hg hf hd
                                have d4 := hd ⟨4, .data⟩ (by simp) rfl _ _ _ rfl rfl rfl
                                have d5 := hd ⟨5, .data⟩ (by simp) rfl _ _ _ rfl rfl rfl
                                have d6 := hd ⟨6, .data⟩ (by simp) rfl _ _ _ rfl rfl rfl
                                refine ⟨fun _ => ?_, fun h => by cases h⟩
                                clear h0 hg hd
                                have hcl := chain_any x2 k ((m : Int) - 1) w1 HX2L.out HX2B.out (by omega) (by omega) (by omega) (by omega) (HLA6.out.up hw)
                                unfold SumPost at hcl
                                rw [stepI_eq, HX2S.out] at hcl
                                refine gives_call rfl hf Tryd.func42 rfl (by kernel_rfl) (args := #[hashV x2, .int .i64 k, .int .i64 ((m : Int) - 1)]) (by simp [hc, d4, d5, d6]) (hcl.mono ?_)
                                rintro e w2 ⟨rfl, hb⟩
                                exact ⟨_, rfl, up_below hb, rfl⟩
                              · intro ρ w1 hw h0 hc hg hf hd
                                have d3 := hd ⟨3, .data⟩ (by simp) rfl _ _ _ rfl rfl rfl
                                have d7 := hd ⟨7, .data⟩ (by simp) rfl _ _ _ rfl rfl rfl
                                refine ⟨fun _ => ?_, fun h => by cases h⟩
                                clear h0 hg hd
                                exact gives_same rfl d3 d7 HZL1.out ⟨Chg.refl _ _, rfl⟩
                              · intro ρ w1 hw h0 hc hg hf hd
                                have d8 := hd ⟨8, .data⟩ (by simp) rfl _ _ _ rfl rfl rfl
                                refine ⟨fun _ => ?_, fun h => by cases h⟩
                                clear h0 hg hd
                                exact gives_assign rfl ⟨Chg.refl _ _, d8⟩
                            · intro vs w7 hw hr
                              have h9 := hr 9 _ rfl
                              clear hr
                              dsimp only [putsL, restL]
                              simp only [Act.put, List.setIfInBounds_toArray, List.set_cons_zero, List.set_cons_succ]
                              rw [h9]
                              have HU10 := Lib.hid ((HU.out.trans (HUb.out.trans (HUi.out.trans (HG9.out.trans HW6.out)))).trans ((Chg.refl (fun _ => False) _).drew.trans hw))
                              clear hw h9
                              go_wp2
                              go_ret
                              exact ⟨rfl, HU10.out.below_none (fun _ _ h => h)⟩
                      · have hdec : decide (M ≤ (m : Int) - 1) = false := by simpa using hge
                        rw [hdec]
                        have HU9 := Lib.hid (HUi.out.trans HG9.out)
                        clear hdec
                        go_wp2_with fail
                        go_roundw
                        case rel => exact ⟨k + 1, by omega, by go_num, HU9.out⟩
                        case measure => simp [intOf]; omega
            · obtain rfl : k = 67 := by omega
              have HU9 := Lib.hid (HU.out.trans (HUb.out.trans hu))
              clear hu
              go_wp2_with fail
              go_ret
              exact ⟨rfl, HU9.out.below_none (fun _ _ h => h)⟩
        · have n35 : (4 :: F1 == 4 :: F2) = false := by rw [beq_eq_false_iff_ne]; intro h; injection h with _ h; exact hne h
          rw [n35] at n34
          have ez := eql25 z z HZL.out HZL.out
          rw [beq_self_eq_true] at ez
          have gz := guard25 .eql (.tmp 68) (.tmp 70) z z
          have hV : ∃ u, hashV z = u := ⟨_, rfl⟩
          clear hne n35 HINJ
          go_wp2_with fail
          refine HC3.out.mono ?_
          rintro e Wc ⟨rfl, hb5⟩
          have HC4' := Lib.hid (HC4.out Wc (up_below hb5))
          have HU5 := Lib.hid (HUb.out.trans (up_below hb5))
          clear hb5 HC3 HC4
          go_wp2_with fail
          refine HC4'.out.mono ?_
          rintro e Wd ⟨rfl, hb6⟩
          have HU6 := Lib.hid (HU.out.trans (HU5.out.trans (up_below hb6)))
          clear hb6 HC4' HU5
          go_wp2
          go_ret
          exact ⟨rfl, HU6.out.below_none (fun _ _ h => h)⟩
end Go.Proofs.YtaahffminoekfaaDoor
