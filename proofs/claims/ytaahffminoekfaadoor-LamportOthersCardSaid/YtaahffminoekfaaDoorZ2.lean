/-
  The public key of layer 5, walked.
-/
import Derived.Test.YtaahffminoekfaaDoorZ1
import Derived.Test.YtaahffminoekfaaDoorMT
import Derived.Test.YtaahffminoekfaaDoorY11
namespace Go.Proofs.YtaahffminoekfaaDoor
open Go.RowKit
/-- What Public of layer 5 answers. -/
def LPubPost (h : List Int) (a : Int) (w : World) (e : Ending) (w' : World) : Prop :=
  Below w.heap.size w w' ∧ ((inRange a ∧ e = .returned (.tuple #[hashV (shaI (4 :: (pubL h a 256).flatten)), .int .i64 0])) ∨ (¬ inRange a ∧ e = .returned (.tuple #[hashV zeroH, .int .i64 11])))
/-- A row of two hashes. -/
def TwoB (x y : List Int) (v : Value) (W : World) : Prop := ∃ g, v = .slice (some ⟨g, 0, none⟩) 2 2 ∧ W.heap[g]? = some (.cells (u8s (x ++ y)).toArray 25 (0, 0))
theorem TwoB.up {x y : List Int} {v : Value} {W W' : World} (h : TwoB x y v W) (hu : Up W W') : TwoB x y v W' := by
  obtain ⟨g, e, h1⟩ := h
  exact ⟨g, e, hu.heap h1 (fun h => h)⟩
set_option maxRecDepth 100000 in
set_option maxHeartbeats 4000000 in
theorem lpub_any (h : List Int) (a : Int) (w : World) (hl : h.length = 32) (hb : Bytes h) (ha : I64 a) (hla : Laid w) :
    Calls Tryd.prog 57 #[hashV h, .int .i64 a] w (LPubPost h a w) := by
  have hl2 := hla.lt
  obtain ⟨cx, hcx, hux, _, _, hsz, hs32⟩ := hash_parts h hl
  rw [hcx]
  obtain ⟨W0, hW0⟩ : ∃ W0, W0 = (w.alloc (.cells cx 25)).alloc (.cells ((List.replicate 32 (Value.int .u8 0)).toArray) 25) := ⟨_, rfl⟩
  have HR0 : Hid (W0.heap[w.heap.size + 1]? = some (.cells ((List.replicate 32 (Value.int .u8 0)).toArray) 25 (0, 0))) := Lib.hid (by
    rw [hW0]; have := heap_alloc_last (w.alloc (.cells cx 25)) (.cells ((List.replicate 32 (Value.int .u8 0)).toArray) 25); rwa [World.size_alloc] at this)
  have HX0 : Hid (W0.heap[w.heap.size]? = some (.cells cx 25 (0, 0))) := Lib.hid (by rw [hW0]; exact (Below.heap_alloc _ _ _ (by simp)).trans (heap_alloc_last _ _))
  have HC0 : Hid (Chg (fun i => w.heap.size ≤ i) w W0) := Lib.hid (by rw [hW0]; exact ((Chg.refl _ w).alloc _).alloc _)
  have HWL : Hid (W0 = (w.alloc (.cells cx 25)).alloc (.cells (#[.int .u8 0, .int .u8 0, .int .u8 0, .int .u8 0, .int .u8 0, .int .u8 0, .int .u8 0, .int .u8 0, .int .u8 0, .int .u8 0, .int .u8 0, .int .u8 0, .int .u8 0, .int .u8 0, .int .u8 0, .int .u8 0, .int .u8 0, .int .u8 0, .int .u8 0, .int .u8 0, .int .u8 0, .int .u8 0, .int .u8 0, .int .u8 0, .int .u8 0, .int .u8 0, .int .u8 0, .int .u8 0, .int .u8 0, .int .u8 0, .int .u8 0, .int .u8 0]) 25)) := Lib.hid (by rw [hW0]; rfl)
  have hwz0 : w.heap.size + 1 < W0.heap.size := (Array.getElem?_eq_some_iff.1 HR0.out).1
  have HCX := Lib.hid hcx
  have HS25 : Hid ((Tryd.prog.info? 25).map (·.size) = some 32) := Lib.hid (by rw [hsz, hs32])
  have HSX := Lib.hid hsz
  have HB := Lib.hid hb
  have HL := Lib.hid hl
  have HA := Lib.hid ha
  have HLA := Lib.hid hla
  have HRI := Lib.hid (right70_any a W0)
  clear hcx hux hl hb hla hsz hs32 hW0 ha
  by_cases hin : inRange a
  case neg =>
    have hdn : (decide (0 ≤ a) && decide (a ≤ 2147483647)) = false := by rw [Bool.and_eq_false_iff]; unfold inRange at hin; simp; omega
    rw [hdn] at HRI
    have HIN := Lib.hid hin
    have LS : Hid ((Tryd.prog.info? 25).map (·.size) = some (Array.size (#[.int .u8 0, .int .u8 0, .int .u8 0, .int .u8 0, .int .u8 0, .int .u8 0, .int .u8 0, .int .u8 0, .int .u8 0, .int .u8 0, .int .u8 0, .int .u8 0, .int .u8 0, .int .u8 0, .int .u8 0, .int .u8 0, .int .u8 0, .int .u8 0, .int .u8 0, .int .u8 0, .int .u8 0, .int .u8 0, .int .u8 0, .int .u8 0, .int .u8 0, .int .u8 0, .int .u8 0, .int .u8 0, .int .u8 0, .int .u8 0, .int .u8 0, .int .u8 0] : Array Value))) := Lib.hid (by rw [HS25.out]; rfl)
    have LO : Hid (((List.replicate 32 (Value.int .u8 0)).toArray).size = Array.size (#[.int .u8 0, .int .u8 0, .int .u8 0, .int .u8 0, .int .u8 0, .int .u8 0, .int .u8 0, .int .u8 0, .int .u8 0, .int .u8 0, .int .u8 0, .int .u8 0, .int .u8 0, .int .u8 0, .int .u8 0, .int .u8 0, .int .u8 0, .int .u8 0, .int .u8 0, .int .u8 0, .int .u8 0, .int .u8 0, .int .u8 0, .int .u8 0, .int .u8 0, .int .u8 0, .int .u8 0, .int .u8 0, .int .u8 0, .int .u8 0, .int .u8 0, .int .u8 0] : Array Value)) := Lib.hid (by kernel_rfl)
    have L1 : Hid (Array.all (#[.int .u8 0, .int .u8 0, .int .u8 0, .int .u8 0, .int .u8 0, .int .u8 0, .int .u8 0, .int .u8 0, .int .u8 0, .int .u8 0, .int .u8 0, .int .u8 0, .int .u8 0, .int .u8 0, .int .u8 0, .int .u8 0, .int .u8 0, .int .u8 0, .int .u8 0, .int .u8 0, .int .u8 0, .int .u8 0, .int .u8 0, .int .u8 0, .int .u8 0, .int .u8 0, .int .u8 0, .int .u8 0, .int .u8 0, .int .u8 0, .int .u8 0, .int .u8 0] : Array Value) (·.oneCell') = true) := Lib.hid (by kernel_rfl)
    clear hin hdn
    go_enter Tryd.func57, Tryd.ntmps57
    go_wp2_with fail
    rw [← HWL.out]
    refine HRI.out.mono ?_
    rintro e W1 ⟨rfl, rfl⟩
    go_wp2_with (refine wpList_store_row rfl 25 (.tmp 4) (.tmp 11) rfl (w.heap.size + 1) #[.int .u8 0, .int .u8 0, .int .u8 0, .int .u8 0, .int .u8 0, .int .u8 0, .int .u8 0, .int .u8 0, .int .u8 0, .int .u8 0, .int .u8 0, .int .u8 0, .int .u8 0, .int .u8 0, .int .u8 0, .int .u8 0, .int .u8 0, .int .u8 0, .int .u8 0, .int .u8 0, .int .u8 0, .int .u8 0, .int .u8 0, .int .u8 0, .int .u8 0, .int .u8 0, .int .u8 0, .int .u8 0, .int .u8 0, .int .u8 0, .int .u8 0, .int .u8 0] (by rfl) (by rfl) 25 _ HR0.out LS.out LO.out L1.out ?_)
    refine bodyPost_ret (v := .tuple #[.agg #[.int .u8 0, .int .u8 0, .int .u8 0, .int .u8 0, .int .u8 0, .int .u8 0, .int .u8 0, .int .u8 0, .int .u8 0, .int .u8 0, .int .u8 0, .int .u8 0, .int .u8 0, .int .u8 0, .int .u8 0, .int .u8 0, .int .u8 0, .int .u8 0, .int .u8 0, .int .u8 0, .int .u8 0, .int .u8 0, .int .u8 0, .int .u8 0, .int .u8 0, .int .u8 0, .int .u8 0, .int .u8 0, .int .u8 0, .int .u8 0, .int .u8 0, .int .u8 0], .int .i64 11]) (results_row_tmp rfl _ _ (w.heap.size + 1) 25 _ (0, 0) _ (by rfl) (setRow_same _ (w.heap.size + 1) #[.int .u8 0, .int .u8 0, .int .u8 0, .int .u8 0, .int .u8 0, .int .u8 0, .int .u8 0, .int .u8 0, .int .u8 0, .int .u8 0, .int .u8 0, .int .u8 0, .int .u8 0, .int .u8 0, .int .u8 0, .int .u8 0, .int .u8 0, .int .u8 0, .int .u8 0, .int .u8 0, .int .u8 0, .int .u8 0, .int .u8 0, .int .u8 0, .int .u8 0, .int .u8 0, .int .u8 0, .int .u8 0, .int .u8 0, .int .u8 0, .int .u8 0, .int .u8 0] _ 25 (0, 0) HR0.out) _ (by rfl) Tryd.underlying25 rfl (by rw [HS25.out]; rfl)) rfl ?_
    exact ⟨(HC0.out.setRow (w.heap.size + 1) (.inl (by omega)) _).below (Nat.le_refl _) (fun _ h => h), .inr ⟨HIN.out, by rw [← zero_agg]⟩⟩
  case pos =>
    have hdn : (decide (0 ≤ a) && decide (a ≤ 2147483647)) = true := by unfold inRange at hin; simp; omega
    rw [hdn] at HRI
    have HIN := Lib.hid hin
    clear hin hdn
    go_enter Tryd.func57, Tryd.ntmps57
    go_wp2_with fail
    rw [← HWL.out]
    refine HRI.out.mono ?_
    rintro e W1 ⟨rfl, rfl⟩
    rename World => W1
    have HXR0 := Lib.hid HX0.out
    have HLA1 := Lib.hid (HLA.out.chg HC0.out (by omega) (by omega))
    clear HX0 HRI HWL HLA
    go_wp2_with fail
    go_loopw [6, 12] (fun o i wr => ∃ (k c : Nat) (B : Option Addr), k ≤ 256 ∧ i = .int .i64 k ∧ o = .slice B (2 * k) c ∧ wr.ownsRow W1.heap.size 25 32 (.slice B (2 * k) c) (2 * k) (u8s (pubL h a k).flatten) ∧ Up W1 wr) (fun _ i _ => 256 - (intOf i).toNat)
    case atStart => exact ⟨0, 0, none, by omega, rfl, rfl, World.ownsRow_nil _ _ _ _, Chg.refl _ _⟩
    case round =>
      rename World => wo
      obtain ⟨k, c, B, hk, rfl, rfl, ho, hu⟩ := hrel
      by_cases hk2 : (k : Int) < 256
      · have hrs := pairs_succ (fun k => endL h a k 0) (fun k => endL h a k 1) k
        have hs0 := secI_len h a (67 + 2 * (k : Int) + 0)
        have hb0 := secI_bytes h a (67 + 2 * (k : Int) + 0)
        have hs1 := secI_len h a (67 + 2 * (k : Int) + 1)
        have hb1 := secI_bytes h a (67 + 2 * (k : Int) + 1)
        have he0 := endL_ok h a k 0
        have he1 := endL_ok h a k 1
        have q0 := endL_eq h a k 0
        have q1 := endL_eq h a k 1
        obtain ⟨s0, hs0'⟩ : ∃ x, secI h a (67 + 2 * (k : Int) + 0) = x := ⟨_, rfl⟩
        obtain ⟨s1, hs1'⟩ : ∃ x, secI h a (67 + 2 * (k : Int) + 1) = x := ⟨_, rfl⟩
        obtain ⟨e0, he0'⟩ : ∃ x, endL h a k 0 = x := ⟨_, rfl⟩
        obtain ⟨e1, he1'⟩ : ∃ x, endL h a k 1 = x := ⟨_, rfl⟩
        rw [hs0'] at hs0 hb0 q0
        rw [hs1'] at hs1 hb1 q1
        rw [he0'] at he0 q0 hrs
        rw [he1'] at he1 q1 hrs
        have HS0 := Lib.hid hs0'
        have HS1 := Lib.hid hs1'
        have HE0 := Lib.hid q0
        have HE1 := Lib.hid q1
        have HLs0 := Lib.hid hs0
        have HBs0 := Lib.hid hb0
        have HLs1 := Lib.hid hs1
        have HBs1 := Lib.hid hb1
        have HLe0 := Lib.hid he0.1
        have HLe1 := Lib.hid he1.1
        have HRS : Hid (pubL h a (k + 1) = pubL h a k ++ [e0, e1]) := Lib.hid hrs
        have hud : Up W1 wo.drew := hu.trans (Chg.refl _ _).drew
        have HXR := Lib.hid (hud.heap HXR0.out (fun h => h))
        have HLAo := Lib.hid (HLA1.out.up hud)
        have HO := Lib.hid ho
        have HU := Lib.hid hu
        clear hrs hs0 hb0 hs1 hb1 he0 he1 q0 q1 hs0' hs1' he0' he1' hud ho hu
        go_wp2_with fail
        refine MT.region_mono Up [fun v _ => v = .slice B (2 * k) c,
            fun v _ => v = hashV h,
            fun v _ => v = .int .i64 a,
            fun v _ => v = .int .i64 k,
            fun v _ => v = hashV s0,
            fun v _ => v = .int .i64 k,
            fun v _ => v = hashV e0,
            fun v _ => v = hashV h,
            fun v _ => v = .int .i64 a,
            fun v _ => v = .int .i64 k,
            fun v _ => v = hashV s1,
            fun v _ => v = .int .i64 k,
            fun v _ => v = hashV e1,
            TwoB e0 e1] (by kernel_rfl) (by kernel_rfl) (Chg.refl _) (fun _ _ _ => Chg.trans) (by simp) ?_ ?_ ?_
        · simp only [List.forall_mem_cons]
          exact ⟨fun _ _ _ _ _ h => h, fun _ _ _ _ _ h => h, fun _ _ _ _ _ h => h, fun _ _ _ _ _ h => h, fun _ _ _ _ _ h => h, fun _ _ _ _ _ h => h, fun _ _ _ _ _ h => h, fun _ _ _ _ _ h => h, fun _ _ _ _ _ h => h, fun _ _ _ _ _ h => h, fun _ _ _ _ _ h => h, fun _ _ _ _ _ h => h, fun _ _ _ _ _ h => h, fun _ _ _ _ hu h => TwoB.up h hu, by simp⟩
        · refine ⟨?_, ?_, ?_, ?_, ?_, ?_, ?_, ?_, ?_, ?_, ?_, ?_, ?_, ?_, trivial⟩
          · intro ρ w1 hw h0 hc hg hf hd
            have s6 : ρ (.tmp 6) = .slice B (2 * k) c := h0 6 (by kernel_rfl)
            refine ⟨fun _ => ?_, fun h => by cases h⟩
            clear h0 hg hd
            exact gives_move rfl ⟨Chg.refl _ _, s6⟩
          · intro ρ w1 hw h0 hc hg hf hd
            have s2 : ρ (.tmp 2) = .pointer (some ⟨w.heap.size, 0, none⟩) := h0 2 (by kernel_rfl)
            refine ⟨fun _ => ?_, fun h => by cases h⟩
            clear h0 hg hd
            clear hc hf
            rw [HCX.out]
            exact gives_load_row rfl s2 (hw.heap HXR.out (fun h => h)) Tryd.underlying25 rfl HSX.out ⟨Chg.refl _ _, rfl⟩
          · intro ρ w1 hw h0 hc hg hf hd
            have s1 : ρ (.tmp 1) = .int .i64 a := h0 1 (by kernel_rfl)
            refine ⟨fun _ => ?_, fun h => by cases h⟩
            clear h0 hg hd
            exact gives_move rfl ⟨Chg.refl _ _, s1⟩
          · intro ρ w1 hw h0 hc hg hf hd
            have s7 : ρ (.tmp 7) = .int .i64 k := h0 7 (by kernel_rfl)
            refine ⟨fun _ => ?_, fun h => by cases h⟩
            clear h0 hg hd
            exact gives_move rfl ⟨Chg.refl _ _, s7⟩
          · intro ρ w1 hw h0 hc hg hf hd
            have d1 := hd ⟨1, .data⟩ (by simp) rfl _ _ _ rfl rfl rfl
            have d2 := hd ⟨2, .data⟩ (by simp) rfl _ _ _ rfl rfl rfl
            have d3 := hd ⟨3, .data⟩ (by simp) rfl _ _ _ rfl rfl rfl
            refine ⟨fun _ => ?_, fun h => by cases h⟩
            clear h0 hg hd
            have hcl := lsec_any h a k 0 w1 HL.out HB.out HA.out (by omega) (by omega) (by omega) (by omega) (HLAo.out.up hw)
            unfold HashPost at hcl
            rw [HS0.out] at hcl
            refine gives_call rfl hf Tryd.func72 rfl (by kernel_rfl) (args := #[hashV h, .int .i64 a, .int .i64 k, .int .i64 0]) (by simp [hc, d1, d2, d3]) (hcl.mono ?_)
            rintro e w2 ⟨rfl, hb⟩
            exact ⟨_, rfl, up_below hb, rfl⟩
          · intro ρ w1 hw h0 hc hg hf hd
            have s7 : ρ (.tmp 7) = .int .i64 k := h0 7 (by kernel_rfl)
            refine ⟨fun _ => ?_, fun h => by cases h⟩
            clear h0 hg hd
            exact gives_move rfl ⟨Chg.refl _ _, s7⟩
          · intro ρ w1 hw h0 hc hg hf hd
            have d4 := hd ⟨4, .data⟩ (by simp) rfl _ _ _ rfl rfl rfl
            have d5 := hd ⟨5, .data⟩ (by simp) rfl _ _ _ rfl rfl rfl
            refine ⟨fun _ => ?_, fun h => by cases h⟩
            clear h0 hg hd
            have hcl := lend_any s0 k 0 w1 HLs0.out HBs0.out (by omega) (by omega) (by omega) (by omega) (HLAo.out.up hw)
            unfold HashPost at hcl
            rw [HE0.out] at hcl
            refine gives_call rfl hf Tryd.func73 rfl (by kernel_rfl) (args := #[hashV s0, .int .i64 k, .int .i64 0]) (by simp [hc, d4, d5]) (hcl.mono ?_)
            rintro e w2 ⟨rfl, hb⟩
            exact ⟨_, rfl, up_below hb, rfl⟩
          · intro ρ w1 hw h0 hc hg hf hd
            have s2 : ρ (.tmp 2) = .pointer (some ⟨w.heap.size, 0, none⟩) := h0 2 (by kernel_rfl)
            refine ⟨fun _ => ?_, fun h => by cases h⟩
            clear h0 hg hd
            clear hc hf
            rw [HCX.out]
            exact gives_load_row rfl s2 (hw.heap HXR.out (fun h => h)) Tryd.underlying25 rfl HSX.out ⟨Chg.refl _ _, rfl⟩
          · intro ρ w1 hw h0 hc hg hf hd
            have s1 : ρ (.tmp 1) = .int .i64 a := h0 1 (by kernel_rfl)
            refine ⟨fun _ => ?_, fun h => by cases h⟩
            clear h0 hg hd
            exact gives_move rfl ⟨Chg.refl _ _, s1⟩
          · intro ρ w1 hw h0 hc hg hf hd
            have s7 : ρ (.tmp 7) = .int .i64 k := h0 7 (by kernel_rfl)
            refine ⟨fun _ => ?_, fun h => by cases h⟩
            clear h0 hg hd
            exact gives_move rfl ⟨Chg.refl _ _, s7⟩
          · intro ρ w1 hw h0 hc hg hf hd
            have d7 := hd ⟨7, .data⟩ (by simp) rfl _ _ _ rfl rfl rfl
            have d8 := hd ⟨8, .data⟩ (by simp) rfl _ _ _ rfl rfl rfl
            have d9 := hd ⟨9, .data⟩ (by simp) rfl _ _ _ rfl rfl rfl
            refine ⟨fun _ => ?_, fun h => by cases h⟩
            clear h0 hg hd
            have hcl := lsec_any h a k 1 w1 HL.out HB.out HA.out (by omega) (by omega) (by omega) (by omega) (HLAo.out.up hw)
            unfold HashPost at hcl
            rw [HS1.out] at hcl
            refine gives_call rfl hf Tryd.func72 rfl (by kernel_rfl) (args := #[hashV h, .int .i64 a, .int .i64 k, .int .i64 1]) (by simp [hc, d7, d8, d9]) (hcl.mono ?_)
            rintro e w2 ⟨rfl, hb⟩
            exact ⟨_, rfl, up_below hb, rfl⟩
          · intro ρ w1 hw h0 hc hg hf hd
            have s7 : ρ (.tmp 7) = .int .i64 k := h0 7 (by kernel_rfl)
            refine ⟨fun _ => ?_, fun h => by cases h⟩
            clear h0 hg hd
            exact gives_move rfl ⟨Chg.refl _ _, s7⟩
          · intro ρ w1 hw h0 hc hg hf hd
            have d10 := hd ⟨10, .data⟩ (by simp) rfl _ _ _ rfl rfl rfl
            have d11 := hd ⟨11, .data⟩ (by simp) rfl _ _ _ rfl rfl rfl
            refine ⟨fun _ => ?_, fun h => by cases h⟩
            clear h0 hg hd
            have hcl := lend_any s1 k 1 w1 HLs1.out HBs1.out (by omega) (by omega) (by omega) (by omega) (HLAo.out.up hw)
            unfold HashPost at hcl
            rw [HE1.out] at hcl
            refine gives_call rfl hf Tryd.func73 rfl (by kernel_rfl) (args := #[hashV s1, .int .i64 k, .int .i64 1]) (by simp [hc, d10, d11]) (hcl.mono ?_)
            rintro e w2 ⟨rfl, hb⟩
            exact ⟨_, rfl, up_below hb, rfl⟩
          · intro ρ w1 hw h0 hc hg hf hd
            have d6 := hd ⟨6, .data⟩ (by simp) rfl _ _ _ rfl rfl rfl
            have d12 := hd ⟨12, .data⟩ (by simp) rfl _ _ _ rfl rfl rfl
            refine ⟨fun _ => ?_, fun h => by cases h⟩
            clear h0 hg hd
            clear hc hf
            exact gives_build_two rfl e0 e1 d6 d12 HLe0.out HLe1.out ⟨(Chg.refl _ w1).alloc _, _, rfl, heap_alloc_last _ _⟩
        · intro vs w2 hw hr
          have h0 := hr 0 _ rfl
          have h13 := hr 13 _ rfl
          clear hr
          dsimp only [putsL, restL]
          simp only [Act.put, List.setIfInBounds_toArray, List.set_cons_zero, List.set_cons_succ]
          obtain ⟨g, e13, hg⟩ := h13
          rw [h0, e13]
          have hu2 : Up wo w2 := (Chg.refl (fun _ => False) wo).drew.trans hw
          obtain ⟨A2, c2, w3, hrun, ho2, hc2, _⟩ := push_two w2 W1.heap.size _ (2 * k) (pubL h a k) (own_up HO.out hu2) g e0 e1 hg HLe0.out HLe1.out (by omega) (by have := HU.out.size; have := hu2.size; omega)
          have HRUN := Lib.hid hrun
          have HO2 := Lib.hid ho2
          have HU2 := Lib.hid ((HU.out.trans hu2).then hc2 (fun i hi => .inr (by have := ((own_up HO.out hu2).lt i hi).1; omega)))
          clear hw h0 e13 hg hu2 hrun ho2 hc2
          go_wp2_with (at_builtin; refine wpList_run_append rfl _ _ 49 rfl _ _ rfl rfl 49 rfl HRUN.out ?_)
          go_roundw
          case rel =>
            refine ⟨k + 1, c2, A2, by omega, by go_num, rfl, ?_, HU2.out⟩
            rw [HRS.out]; exact HO2.out
          case measure => simp [intOf]; omega
      · obtain rfl : k = 256 := by omega
        have hpl : (pubL h a 256).length = 512 := pairs_len _ _ _
        have hslh : SlH wo (.slice B 512 c) (pubL h a 256) := by
          have h2 := own_slh (w := wo) (base := W1.heap.size) (c := c) (B := B) (hs := pubL h a 256) (by rw [hpl]; exact ho) (by rw [hpl]; exact pubL_each h a 256)
          rwa [hpl] at h2
        have hpub := public_any _ _ wo hslh (by rw [hpl]; omega) (HLA1.out.up hu)
        obtain ⟨hc, hhc, _, hone, hold, hsz, _⟩ := hash_parts _ (hash_size (4 :: (pubL h a 256).flatten))
        unfold SumPost at hpub
        rw [hhc] at hpub
        have HPUB := Lib.hid hpub
        have HSZ := Lib.hid hsz
        have HON := Lib.hid hone
        have HOL := Lib.hid hold
        have HHC := Lib.hid hhc
        have H3 := Lib.hid (hu.heap HR0.out (fun h => h))
        have HC3 := Lib.hid (HC0.out.then hu (fun _ h => h.elim))
        clear hslh hpub hsz hone hold hhc ho hu HR0 HC0 hpl
        go_wp2_with fail
        refine HPUB.out.mono ?_
        rintro e W2 ⟨rfl, hb2⟩
        have hu2 : Up wo W2 := up_below hb2
        have H4 := Lib.hid (hu2.heap H3.out (fun h => h))
        have HC4 := Lib.hid (HC3.out.then hu2 (fun _ h => h.elim))
        clear hb2 hu2 H3 HC3 HPUB
        go_wp2_with (refine wpList_store_row rfl 25 (.tmp 4) (.tmp 32) rfl (w.heap.size + 1) hc (by rfl) (by rfl) 25 _ H4.out HSZ.out HOL.out HON.out ?_)
        refine bodyPost_ret (v := .tuple #[.agg hc, .int .i64 0]) (results_row_tmp rfl _ _ (w.heap.size + 1) 25 _ (0, 0) _ (by rfl) (setRow_same W2 (w.heap.size + 1) hc _ 25 (0, 0) H4.out) _ (by rfl) Tryd.underlying25 rfl HSZ.out) rfl ?_
        exact ⟨(HC4.out.setRow (w.heap.size + 1) (.inl (by omega)) _).below (Nat.le_refl _) (fun _ h => h), .inl ⟨HIN.out, by rw [HHC.out]⟩⟩
end Go.Proofs.YtaahffminoekfaaDoor
