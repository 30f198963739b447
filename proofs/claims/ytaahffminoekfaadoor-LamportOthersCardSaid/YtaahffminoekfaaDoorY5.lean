/-
  A fixed answer; WotsWalks, walked.
-/
import Derived.Test.YtaahffminoekfaaDoorY4
import Derived.Test.YtaahffminoekfaaDoorS2
namespace Go.Proofs.YtaahffminoekfaaDoor
open Go.RowKit
theorem gives_assign {P : Program} {o : Oper} {ρ : Operand → Value} {w : World} {Φ : Value → World → Prop} {x : Operand} (ho : o.op = .assign x) (k : Φ (ρ x) w) : Gives P o ρ w Φ :=
  Gives.value (v := ρ x) (w' := w) (by simp [execOp, ho]) k
theorem zero_agg : Value.agg (#[.int .u8 0, .int .u8 0, .int .u8 0, .int .u8 0, .int .u8 0, .int .u8 0, .int .u8 0, .int .u8 0, .int .u8 0, .int .u8 0, .int .u8 0, .int .u8 0, .int .u8 0, .int .u8 0, .int .u8 0, .int .u8 0, .int .u8 0, .int .u8 0, .int .u8 0, .int .u8 0, .int .u8 0, .int .u8 0, .int .u8 0, .int .u8 0, .int .u8 0, .int .u8 0, .int .u8 0, .int .u8 0, .int .u8 0, .int .u8 0, .int .u8 0, .int .u8 0]) = hashV zeroH := rfl
theorem zero_len : zeroH.length = 32 := rfl
theorem zero_bytes : Bytes zeroH := by
  intro j
  by_cases hj : j < 32
  · exact (show ∀ j, j < 32 → 0 ≤ zeroH.getD j 0 ∧ zeroH.getD j 0 ≤ 255 by decide) j hj
  · rw [List.getD_eq_getElem?_getD, List.getElem?_eq_none (by rw [zero_len]; omega)]; simp
theorem zero_digits : (digitsI zeroH).getD 64 0 = 3 ∧ (digitsI zeroH).getD 65 0 = 12 ∧ (digitsI zeroH).getD 66 0 = 0 := by decide +kernel
theorem ints_cell {w : World} {base n : Nat} {v : Value} {xs : List Int} (h : w.ownsRow base 3 1 v n (i64s xs)) (hp : 0 < n) : ∃ g c, v = .slice (some ⟨g, 0, none⟩) n c ∧ base ≤ g ∧ g < w.heap.size ∧ n ≤ c ∧ c ≤ 9223372036854775807 ∧ ∀ j, j < n → w.cell? ⟨g, j, none⟩ = some (.int .i64 (xs.getD j 0)) := by
  obtain ⟨A, c, rfl⟩ := own_shape3 h
  obtain ⟨g, rfl, h1, h2, h3, h4⟩ := bits_cell h hp
  exact ⟨g, c, rfl, h1, (h.lt g rfl).2, h2, h3, h4⟩
theorem I64.ofNat (n : Nat) (h : n ≤ 9223372036854775807) : I64 n := ⟨by omega, by omega⟩
set_option maxRecDepth 100000 in
set_option maxHeartbeats 4000000 in
theorem awake4_any (w : World) (hla : Laid w) : Calls Tryd.prog 46 #[] w (TruePost w) := by
  have HLA := Lib.hid hla
  clear hla
  have hd := digits_any zeroH zero_len zero_bytes w
  rw [← zero_agg] at hd
  have HD := Lib.hid hd
  clear hd
  go_enter Tryd.func46, Tryd.ntmps46
  go_wp2_with fail
  refine HD.out.mono ?_
  rintro e W1 ⟨v, rfl, ho, hb⟩
  obtain ⟨g, c, rfl, hg, hgl, hc, hc2, hat⟩ := ints_cell ho (by omega)
  have b64 := hat 64 (by omega)
  have b65 := hat 65 (by omega)
  have b66 := hat 66 (by omega)
  rw [zero_digits.1] at b64
  rw [zero_digits.2.1] at b65
  rw [zero_digits.2.2] at b66
  have HB := Lib.hid hb
  have hw := walk_any zeroH 1 2 3 W1 zero_len zero_bytes ⟨by omega, by omega⟩ ⟨by omega, by omega⟩ ⟨by omega, by omega⟩ (HLA.out.below hb)
  rw [← zero_agg, show ((3 : Int) - 2).toNat = 0 + 1 from rfl, walkI_succ, walkI_zero] at hw
  have HW := Lib.hid hw
  clear ho hb hat HD hw
  go_wp2_with fail
  refine HW.out.mono ?_
  rintro e W2 ⟨rfl, hb2⟩
  have hch := chain_any zeroH 1 2 W2 zero_len zero_bytes (by omega) (by omega) (by omega) (by omega) (HLA.out.below (below_then HB.out hb2))
  rw [← zero_agg] at hch
  unfold SumPost at hch
  rw [stepI_eq] at hch
  simp only [Int.natCast_zero, Int.cast_ofNat_Int, Int.add_zero]
  obtain ⟨x, hx⟩ : ∃ x, stepI zeroH 1 2 = x := ⟨_, rfl⟩
  have hxl : x.length = 32 := by rw [← hx, ← stepI_eq]; exact hash_size _
  rw [hx] at hch ⊢
  have HCH := Lib.hid hch
  have HB2 := Lib.hid (below_then HB.out hb2)
  have q1 := eql25 x x hxl hxl
  have q2 := fun op a b W => guard25 op a b x x W
  rw [show (x == x) = true by simp] at q1
  clear hb2 hch hx hxl b64 b65 b66 HW
  go_wp2_with fail
  refine HCH.out.mono ?_
  rintro e W3 ⟨rfl, hb3⟩
  have HB3 := Lib.hid (below_then HB2.out hb3)
  clear hb3
  go_wp2
  go_ret
  exact ⟨rfl, HB3.out⟩
set_option maxRecDepth 100000 in
set_option maxHeartbeats 4000000 in
theorem wotsWalks_any (h : List Int) (ch a b c : Int) (w : World) (hl : h.length = 32) (hb : Bytes h) (hch : I64 ch) (ha : I64 a) (hbb : I64 b) (hcc : I64 c) (hla : Laid w) :
    Calls Tryd.prog 12 #[hashV h, .int .i64 ch, .agg #[.int .i64 a, .int .i64 b, .int .i64 c]] w (TruePost w) := by
  have hl2 := hla.lt
  obtain ⟨cx, hcx, hux, _, _, hsz, _⟩ := hash_parts h hl
  have HCX := Lib.hid hcx
  have HSX := Lib.hid hsz
  rw [hcx]
  have HB := Lib.hid hb
  have HL := Lib.hid hl
  have HLA := Lib.hid hla
  have KCH := Lib.hid hch
  have KA := Lib.hid ha
  have KB := Lib.hid hbb
  have KC := Lib.hid hcc
  clear hcx hux hl hb hla hch ha hbb hcc hsz
  go_enter Tryd.func12, Tryd.ntmps12
  go_wp2_with fail
  obtain ⟨W0, hW0⟩ : ∃ W0, W0 = (w.alloc (.cells cx 25)).alloc (.cells #[.int .i64 a, .int .i64 b, .int .i64 c] 59) := ⟨_, rfl⟩
  rw [← hW0]
  have HST : Hid (W0.drew.heap[w.heap.size + 1]? = some (.cells #[.int .i64 a, .int .i64 b, .int .i64 c] 59 (0, 0))) := Lib.hid (by
    rw [hW0]; have := heap_alloc_last (w.alloc (.cells cx 25)) (.cells #[.int .i64 a, .int .i64 b, .int .i64 c] 59); rwa [World.size_alloc] at this)
  have HX0 : Hid (W0.drew.heap[w.heap.size]? = some (.cells cx 25 (0, 0))) := Lib.hid (by rw [hW0]; exact (Below.heap_alloc _ _ _ (by simp)).trans (heap_alloc_last _ _))
  have HC0 : Hid (Up w W0.drew) := Lib.hid (by rw [hW0]; exact (((Chg.refl _ w).alloc _).alloc _).drew)
  clear hW0
  refine region_mono Up [fun v _ => v = .pointer (some ⟨w.heap.size + 1, 0, none⟩),
      fun v _ => v = .int .i64 a,
      fun v _ => v = .pointer (some ⟨w.heap.size + 1, 1, none⟩),
      fun v _ => v = .int .i64 b,
      fun v _ => v = .pointer (some ⟨w.heap.size + 1, 2, none⟩),
      fun v _ => v = .int .i64 c,
      fun v _ => v = .int .i64 a,
      fun v _ => v = .int .i64 b,
      fun v _ => v = .int .i64 c] (by kernel_rfl) (by kernel_rfl) (Chg.refl _) (fun _ _ _ => Chg.trans) (by simp) ?_ ?_ ?_
  · simp only [List.forall_mem_cons]
    exact ⟨fun _ _ _ _ _ h => h, fun _ _ _ _ _ h => h, fun _ _ _ _ _ h => h, fun _ _ _ _ _ h => h, fun _ _ _ _ _ h => h, fun _ _ _ _ _ h => h, fun _ _ _ _ _ h => h, fun _ _ _ _ _ h => h, fun _ _ _ _ _ h => h, by simp⟩
  · refine ⟨?_, ?_, ?_, ?_, ?_, ?_, ?_, ?_, ?_, trivial⟩
    · intro ρ w1 hw h0 hc hg hf hd
      have s5 : ρ (.tmp 5) = .pointer (some ⟨w.heap.size + 1, 0, none⟩) := h0 5 (by kernel_rfl)
      refine ⟨fun _ => ?_, fun h => by cases h⟩
      clear h0 hg hd
      clear hf
      refine Gives.value (w' := w1) ?_ ⟨Chg.refl _ _, rfl⟩
      go_simp
    · intro ρ w1 hw h0 hc hg hf hd
      have d0 := hd ⟨0, .data⟩ (by simp) rfl _ _ _ rfl rfl rfl
      refine ⟨fun _ => ?_, fun h => by cases h⟩
      clear h0 hg hd
      clear hc hf
      have c0 := cell_of_row w1 (w.heap.size + 1) 0 _ _ _ (hw.heap HST.out (fun h => h))
      refine Gives.value (w' := w1) ?_ ⟨Chg.refl _ _, rfl⟩
      go_simp
    · intro ρ w1 hw h0 hc hg hf hd
      have s5 : ρ (.tmp 5) = .pointer (some ⟨w.heap.size + 1, 0, none⟩) := h0 5 (by kernel_rfl)
      refine ⟨fun _ => ?_, fun h => by cases h⟩
      clear h0 hg hd
      clear hf
      refine Gives.value (w' := w1) ?_ ⟨Chg.refl _ _, rfl⟩
      go_simp
    · intro ρ w1 hw h0 hc hg hf hd
      have d2 := hd ⟨2, .data⟩ (by simp) rfl _ _ _ rfl rfl rfl
      refine ⟨fun _ => ?_, fun h => by cases h⟩
      clear h0 hg hd
      clear hc hf
      have c0 := cell_of_row w1 (w.heap.size + 1) 1 _ _ _ (hw.heap HST.out (fun h => h))
      refine Gives.value (w' := w1) ?_ ⟨Chg.refl _ _, rfl⟩
      go_simp
    · intro ρ w1 hw h0 hc hg hf hd
      have s5 : ρ (.tmp 5) = .pointer (some ⟨w.heap.size + 1, 0, none⟩) := h0 5 (by kernel_rfl)
      refine ⟨fun _ => ?_, fun h => by cases h⟩
      clear h0 hg hd
      clear hf
      refine Gives.value (w' := w1) ?_ ⟨Chg.refl _ _, rfl⟩
      go_simp
    · intro ρ w1 hw h0 hc hg hf hd
      have d4 := hd ⟨4, .data⟩ (by simp) rfl _ _ _ rfl rfl rfl
      refine ⟨fun _ => ?_, fun h => by cases h⟩
      clear h0 hg hd
      clear hc hf
      have c0 := cell_of_row w1 (w.heap.size + 1) 2 _ _ _ (hw.heap HST.out (fun h => h))
      refine Gives.value (w' := w1) ?_ ⟨Chg.refl _ _, rfl⟩
      go_simp
    · intro ρ w1 hw h0 hc hg hf hd
      have d1 := hd ⟨1, .data⟩ (by simp) rfl _ _ _ rfl rfl rfl
      refine ⟨fun _ => ?_, fun h => by cases h⟩
      clear h0 hg hd
      exact gives_assign rfl ⟨Chg.refl _ _, d1⟩
    · intro ρ w1 hw h0 hc hg hf hd
      have d3 := hd ⟨3, .data⟩ (by simp) rfl _ _ _ rfl rfl rfl
      refine ⟨fun _ => ?_, fun h => by cases h⟩
      clear h0 hg hd
      exact gives_assign rfl ⟨Chg.refl _ _, d3⟩
    · intro ρ w1 hw h0 hc hg hf hd
      have d5 := hd ⟨5, .data⟩ (by simp) rfl _ _ _ rfl rfl rfl
      refine ⟨fun _ => ?_, fun h => by cases h⟩
      clear h0 hg hd
      exact gives_assign rfl ⟨Chg.refl _ _, d5⟩
  · intro vs w2 hw hr
    have h6 := hr 6 _ rfl
    have h7 := hr 7 _ rfl
    have h8 := hr 8 _ rfl
    clear hr
    dsimp only [putsL, restL]
    simp only [Act.put, List.setIfInBounds_toArray, List.set_cons_zero, List.set_cons_succ]
    rw [h6, h7, h8]
    have HX := Lib.hid (hw.heap HX0.out (fun h => h))
    have HU := Lib.hid (HC0.out.trans hw)
    clear hw h6 h7 h8 HST HX0 HC0
    rename World => W1
    have wrong : ∀ e w', TruePost W1 e w' → TruePost w e w' := fun e w' ⟨he, hb⟩ => ⟨he, (HU.out.trans (up_below hb)).below_none (fun _ _ h => h)⟩
    have WR := Lib.hid wrong
    have HA := Lib.hid (awake4_any W1 (HLA.out.up HU.out))
    clear wrong
    by_cases g1 : ch < 0
    · go_wp2_with (go_at_call 46; refine HA.out.mono ?_; rintro e w' ⟨rfl, hb⟩)
      go_ret
      exact WR.out _ _ ⟨rfl, hb⟩
    by_cases g2 : 66 < ch
    · go_wp2_with (go_at_call 46; refine HA.out.mono ?_; rintro e w' ⟨rfl, hb⟩)
      go_ret
      exact WR.out _ _ ⟨rfl, hb⟩
    by_cases g3 : a < 0
    · go_wp2_with (go_at_call 46; refine HA.out.mono ?_; rintro e w' ⟨rfl, hb⟩)
      go_ret
      exact WR.out _ _ ⟨rfl, hb⟩
    by_cases g4 : b < a
    · go_wp2_with (go_at_call 46; refine HA.out.mono ?_; rintro e w' ⟨rfl, hb⟩)
      go_ret
      exact WR.out _ _ ⟨rfl, hb⟩
    by_cases g5 : c < b
    · go_wp2_with (go_at_call 46; refine HA.out.mono ?_; rintro e w' ⟨rfl, hb⟩)
      go_ret
      exact WR.out _ _ ⟨rfl, hb⟩
    by_cases g6 : 15 < c
    · go_wp2_with (go_at_call 46; refine HA.out.mono ?_; rintro e w' ⟨rfl, hb⟩)
      go_ret
      exact WR.out _ _ ⟨rfl, hb⟩
    clear HA WR
    go_wp2_with (refine wpList_load_row rfl 25 (.tmp 3) rfl w.heap.size (by rfl) 25 cx (0, 0) _ HX.out Tryd.underlying25 rfl HSX.out ?_)
    have hcall := walk_any h ch a c W1 HL.out HB.out KCH.out KA.out KC.out (HLA.out.up HU.out)
    obtain ⟨al, hal⟩ : ∃ x, walkI h ch a (c - a).toNat = x := ⟨_, rfl⟩
    obtain ⟨mb, hmb⟩ : ∃ x, walkI h ch a (b - a).toNat = x := ⟨_, rfl⟩
    obtain ⟨bk, hbk⟩ : ∃ x, walkI h ch c (a - c).toNat = x := ⟨_, rfl⟩
    have hlal : al.length = 32 := by rw [← hal]; exact walkI_len _ _ _ _ HL.out
    have hlmb : mb.length = 32 := by rw [← hmb]; exact walkI_len _ _ _ _ HL.out
    have hlbk : bk.length = 32 := by rw [← hbk]; exact walkI_len _ _ _ _ HL.out
    have hbmb : Bytes mb := by rw [← hmb]; exact walkI_bytes _ _ _ _ HB.out
    have hab : walkI mb ch b (c - b).toNat = al := by
      rw [← hmb, ← hal, show b = a + ((b - a).toNat : Int) by omega, show (c - (a + ((b - a).toNat : Int))).toNat = (c - b).toNat by omega, show (a + ((b - a).toNat : Int) - a).toNat = (b - a).toNat by omega, ← walkI_add]
      congr 1
      omega
    rw [HCX.out, hal] at hcall
    obtain ⟨ca, hca, _, hone, _, hsza, hso⟩ := hash_parts al hlal
    have HO := Lib.hid hso
    have HON := Lib.hid hone
    have EAL := Lib.hid hal
    have EMB := Lib.hid hmb
    have EBK := Lib.hid hbk
    have EAB := Lib.hid hab
    have LAL := Lib.hid hlal
    have LMB := Lib.hid hlmb
    have LBK := Lib.hid hlbk
    have BMB := Lib.hid hbmb
    have HCA := Lib.hid hca
    have HSA := Lib.hid hsza
    have HCALL := Lib.hid hcall
    clear hal hmb hbk hab hlal hlmb hlbk hbmb hca hsza hcall hso hone
    refine HCALL.out.mono ?_
    rintro e W2 ⟨rfl, hb2⟩
    rw [HCA.out]
    have HX2 := Lib.hid ((hb2.block _ (Array.getElem?_eq_some_iff.1 HX.out).1).trans HX.out)
    have HU2 := Lib.hid (HU.out.trans (up_below hb2))
    clear hb2 HX HU HCALL
    go_wp2_with (refine wpList_store_row rfl 25 (.tmp 10) (.tmp 46) rfl W2.heap.size ca (by rfl) (by rfl) 25 _ (heap_alloc_last W2 _) HSA.out (by rw [HO.out]; rfl) HON.out ?_)
    obtain ⟨W4, hW4⟩ : ∃ W4, W4 = (W2.alloc (.cells (#[.int .u8 0, .int .u8 0, .int .u8 0, .int .u8 0, .int .u8 0, .int .u8 0, .int .u8 0, .int .u8 0, .int .u8 0, .int .u8 0, .int .u8 0, .int .u8 0, .int .u8 0, .int .u8 0, .int .u8 0, .int .u8 0, .int .u8 0, .int .u8 0, .int .u8 0, .int .u8 0, .int .u8 0, .int .u8 0, .int .u8 0, .int .u8 0, .int .u8 0, .int .u8 0, .int .u8 0, .int .u8 0, .int .u8 0, .int .u8 0, .int .u8 0, .int .u8 0]) 25)).setRow W2.heap.size ca := ⟨_, rfl⟩
    obtain ⟨B, hB⟩ : ∃ B, B = W2.heap.size := ⟨_, rfl⟩
    rw [← hW4, ← hB]
    have hB2 : w.heap.size < B := by rw [hB]; exact (Array.getElem?_eq_some_iff.1 HX2.out).1
    have hset : W4.drew.heap[B]? = some (.cells ca 25 (0, 0)) := by rw [hW4, hB]; exact setRow_same _ _ ca _ 25 (0, 0) (heap_alloc_last W2 _)
    have hx4 : W4.drew.heap[w.heap.size]? = some (.cells cx 25 (0, 0)) := by rw [hW4]; exact (setRow_other _ _ _ _ (by omega)).trans ((Below.heap_alloc _ _ _ (by omega)).trans HX2.out)
    have hu4 : Up w W4.drew := by rw [hW4]; exact ((HU2.out.alloc _).setRow W2.heap.size (.inr (by omega)) ca).drew
    have HX := Lib.hid hx4
    have HC0 := Lib.hid hu4
    have HAL := Lib.hid hset
    clear hx4 hu4 hset hW4 hB HX2 HU2 HO HON
    refine region_mono Up [fun v _ => v = hashV al,
        fun v _ => v = hashV h,
        fun v _ => v = .int .i64 ch,
        fun v _ => v = .int .i64 a,
        fun v _ => v = .int .i64 c,
        fun v _ => v = hashV al,
        fun v _ => v = .bool true,
        fun v _ => v = .bool true,
        fun v _ => v = hashV h,
        fun v _ => v = .int .i64 ch,
        fun v _ => v = .int .i64 a,
        fun v _ => v = .int .i64 b,
        fun v _ => v = hashV mb,
        fun v _ => v = .int .i64 ch,
        fun v _ => v = .int .i64 b,
        fun v _ => v = .int .i64 c,
        fun v _ => v = hashV al,
        fun v _ => v = hashV al,
        fun v _ => v = .bool true,
        fun v _ => v = .bool true,
        fun v _ => v = .bool true,
        fun v _ => v = hashV h,
        fun v _ => v = .int .i64 ch,
        fun v _ => v = .int .i64 c,
        fun v _ => v = .int .i64 a,
        fun v _ => v = hashV bk,
        fun v _ => v = hashV h,
        fun v _ => v = .int .i64 ch,
        fun v _ => v = .int .i64 c,
        fun v _ => v = .int .i64 a,
        fun v _ => v = hashV bk,
        fun v _ => v = .bool true,
        fun v _ => v = .bool true,
        fun v _ => v = .bool true,
        fun v _ => v = .bool true,
        fun v _ => v = .bool true] (by kernel_rfl) (by kernel_rfl) (Chg.refl _) (fun _ _ _ => Chg.trans) (by simp) ?_ ?_ ?_
    · simp only [List.forall_mem_cons]
      exact ⟨fun _ _ _ _ _ h => h, fun _ _ _ _ _ h => h, fun _ _ _ _ _ h => h, fun _ _ _ _ _ h => h, fun _ _ _ _ _ h => h, fun _ _ _ _ _ h => h, fun _ _ _ _ _ h => h, fun _ _ _ _ _ h => h, fun _ _ _ _ _ h => h, fun _ _ _ _ _ h => h, fun _ _ _ _ _ h => h, fun _ _ _ _ _ h => h, fun _ _ _ _ _ h => h, fun _ _ _ _ _ h => h, fun _ _ _ _ _ h => h, fun _ _ _ _ _ h => h, fun _ _ _ _ _ h => h, fun _ _ _ _ _ h => h, fun _ _ _ _ _ h => h, fun _ _ _ _ _ h => h, fun _ _ _ _ _ h => h, fun _ _ _ _ _ h => h, fun _ _ _ _ _ h => h, fun _ _ _ _ _ h => h, fun _ _ _ _ _ h => h, fun _ _ _ _ _ h => h, fun _ _ _ _ _ h => h, fun _ _ _ _ _ h => h, fun _ _ _ _ _ h => h, fun _ _ _ _ _ h => h, fun _ _ _ _ _ h => h, fun _ _ _ _ _ h => h, fun _ _ _ _ _ h => h, fun _ _ _ _ _ h => h, fun _ _ _ _ _ h => h, fun _ _ _ _ _ h => h, by simp⟩
    · refine ⟨?_, ?_, ?_, ?_, ?_, ?_, ?_, ?_, ?_, ?_, ?_, ?_, ?_, ?_, ?_, ?_, ?_, ?_, ?_, ?_, ?_, ?_, ?_, ?_, ?_, ?_, ?_, ?_, ?_, ?_, ?_, ?_, ?_, ?_, ?_, ?_, trivial⟩
      · intro ρ w1 hw h0 hc hg hf hd
        have s10 : ρ (.tmp 10) = .pointer (some ⟨B, 0, none⟩) := h0 10 (by kernel_rfl)
        refine ⟨fun _ => ?_, fun h => by cases h⟩
        clear h0 hg hd
        clear hc hf
        rw [HCA.out]
        exact gives_load_row rfl s10 (hw.heap HAL.out (fun h => h)) Tryd.underlying25 rfl HSA.out ⟨Chg.refl _ _, rfl⟩
      · intro ρ w1 hw h0 hc hg hf hd
        have s3 : ρ (.tmp 3) = .pointer (some ⟨w.heap.size, 0, none⟩) := h0 3 (by kernel_rfl)
        refine ⟨fun _ => ?_, fun h => by cases h⟩
        clear h0 hg hd
        clear hc hf
        rw [HCX.out]
        exact gives_load_row rfl s3 (hw.heap HX.out (fun h => h)) Tryd.underlying25 rfl HSX.out ⟨Chg.refl _ _, rfl⟩
      · intro ρ w1 hw h0 hc hg hf hd
        have s1 : ρ (.tmp 1) = .int .i64 ch := h0 1 (by kernel_rfl)
        refine ⟨fun _ => ?_, fun h => by cases h⟩
        clear h0 hg hd
        exact gives_move rfl ⟨Chg.refl _ _, s1⟩
      · intro ρ w1 hw h0 hc hg hf hd
        have s7 : ρ (.tmp 7) = .int .i64 a := h0 7 (by kernel_rfl)
        refine ⟨fun _ => ?_, fun h => by cases h⟩
        clear h0 hg hd
        exact gives_move rfl ⟨Chg.refl _ _, s7⟩
      · intro ρ w1 hw h0 hc hg hf hd
        have s9 : ρ (.tmp 9) = .int .i64 c := h0 9 (by kernel_rfl)
        refine ⟨fun _ => ?_, fun h => by cases h⟩
        clear h0 hg hd
        exact gives_move rfl ⟨Chg.refl _ _, s9⟩
      · intro ρ w1 hw h0 hc hg hf hd
        have d1 := hd ⟨1, .data⟩ (by simp) rfl _ _ _ rfl rfl rfl
        have d2 := hd ⟨2, .data⟩ (by simp) rfl _ _ _ rfl rfl rfl
        have d3 := hd ⟨3, .data⟩ (by simp) rfl _ _ _ rfl rfl rfl
        have d4 := hd ⟨4, .data⟩ (by simp) rfl _ _ _ rfl rfl rfl
        refine ⟨fun _ => ?_, fun h => by cases h⟩
        clear h0 hg hd
        have LA := HLA.out.up (HC0.out.trans hw)
        have hcl := walked_any h ch a c w1 HL.out HB.out KCH.out KA.out KC.out LA
        rw [EAL.out] at hcl
        refine gives_call rfl hf Tryd.func48 rfl (by kernel_rfl) (args := #[hashV h, .int .i64 ch, .int .i64 a, .int .i64 c]) (by simp [hc, d1, d2, d3, d4]) ((hcl).mono ?_)
        rintro e w2 ⟨rfl, hb⟩
        exact ⟨_, rfl, up_below hb, rfl⟩
      · intro ρ w1 hw h0 hc hg hf hd
        have d0 := hd ⟨0, .data⟩ (by simp) rfl _ _ _ rfl rfl rfl
        have d5 := hd ⟨5, .data⟩ (by simp) rfl _ _ _ rfl rfl rfl
        refine ⟨fun _ => ?_, fun h => by cases h⟩
        clear h0 hg hd
        exact gives_same rfl d0 d5 LAL.out ⟨Chg.refl _ _, rfl⟩
      · intro ρ w1 hw h0 hc hg hf hd
        have d6 := hd ⟨6, .data⟩ (by simp) rfl _ _ _ rfl rfl rfl
        refine ⟨fun _ => ?_, fun h => by cases h⟩
        clear h0 hg hd
        exact gives_move rfl ⟨Chg.refl _ _, d6⟩
      · intro ρ w1 hw h0 hc hg hf hd
        have d7 := hd ⟨7, .guard⟩ (by simp) rfl _ _ _ rfl rfl rfl
        have s3 : ρ (.tmp 3) = .pointer (some ⟨w.heap.size, 0, none⟩) := h0 3 (by kernel_rfl)
        refine ⟨fun _ => ?_, fun h => by rw [wantedBy_true rfl rfl rfl d7] at h; cases h⟩
        clear d7
        clear h0 hg hd
        clear hc hf
        rw [HCX.out]
        exact gives_load_row rfl s3 (hw.heap HX.out (fun h => h)) Tryd.underlying25 rfl HSX.out ⟨Chg.refl _ _, rfl⟩
      · intro ρ w1 hw h0 hc hg hf hd
        have d7 := hd ⟨7, .guard⟩ (by simp) rfl _ _ _ rfl rfl rfl
        have s1 : ρ (.tmp 1) = .int .i64 ch := h0 1 (by kernel_rfl)
        refine ⟨fun _ => ?_, fun h => by rw [wantedBy_true rfl rfl rfl d7] at h; cases h⟩
        clear d7
        clear h0 hg hd
        exact gives_move rfl ⟨Chg.refl _ _, s1⟩
      · intro ρ w1 hw h0 hc hg hf hd
        have d7 := hd ⟨7, .guard⟩ (by simp) rfl _ _ _ rfl rfl rfl
        have s7 : ρ (.tmp 7) = .int .i64 a := h0 7 (by kernel_rfl)
        refine ⟨fun _ => ?_, fun h => by rw [wantedBy_true rfl rfl rfl d7] at h; cases h⟩
        clear d7
        clear h0 hg hd
        exact gives_move rfl ⟨Chg.refl _ _, s7⟩
      · intro ρ w1 hw h0 hc hg hf hd
        have d7 := hd ⟨7, .guard⟩ (by simp) rfl _ _ _ rfl rfl rfl
        have s8 : ρ (.tmp 8) = .int .i64 b := h0 8 (by kernel_rfl)
        refine ⟨fun _ => ?_, fun h => by rw [wantedBy_true rfl rfl rfl d7] at h; cases h⟩
        clear d7
        clear h0 hg hd
        exact gives_move rfl ⟨Chg.refl _ _, s8⟩
      · intro ρ w1 hw h0 hc hg hf hd
        have d8 := hd ⟨8, .data⟩ (by simp) rfl _ _ _ rfl rfl rfl
        have d9 := hd ⟨9, .data⟩ (by simp) rfl _ _ _ rfl rfl rfl
        have d10 := hd ⟨10, .data⟩ (by simp) rfl _ _ _ rfl rfl rfl
        have d11 := hd ⟨11, .data⟩ (by simp) rfl _ _ _ rfl rfl rfl
        have d7 := hd ⟨7, .chain⟩ (by simp) rfl _ _ _ rfl rfl rfl
        refine ⟨fun _ => ?_, fun h => by rw [wantedBy_true rfl rfl rfl d7] at h; cases h⟩
        clear d7
        clear h0 hg hd
        have LA := HLA.out.up (HC0.out.trans hw)
        have hcl := walk_any h ch a b w1 HL.out HB.out KCH.out KA.out KB.out LA
        rw [EMB.out] at hcl
        refine gives_call rfl hf Tryd.func47 rfl (by kernel_rfl) (args := #[hashV h, .int .i64 ch, .int .i64 a, .int .i64 b]) (by simp [hc, d8, d9, d10, d11]) ((hcl).mono ?_)
        rintro e w2 ⟨rfl, hb⟩
        exact ⟨_, rfl, up_below hb, rfl⟩
      · intro ρ w1 hw h0 hc hg hf hd
        have d7 := hd ⟨7, .guard⟩ (by simp) rfl _ _ _ rfl rfl rfl
        have s1 : ρ (.tmp 1) = .int .i64 ch := h0 1 (by kernel_rfl)
        refine ⟨fun _ => ?_, fun h => by rw [wantedBy_true rfl rfl rfl d7] at h; cases h⟩
        clear d7
        clear h0 hg hd
        exact gives_move rfl ⟨Chg.refl _ _, s1⟩
      · intro ρ w1 hw h0 hc hg hf hd
        have d7 := hd ⟨7, .guard⟩ (by simp) rfl _ _ _ rfl rfl rfl
        have s8 : ρ (.tmp 8) = .int .i64 b := h0 8 (by kernel_rfl)
        refine ⟨fun _ => ?_, fun h => by rw [wantedBy_true rfl rfl rfl d7] at h; cases h⟩
        clear d7
        clear h0 hg hd
        exact gives_move rfl ⟨Chg.refl _ _, s8⟩
      · intro ρ w1 hw h0 hc hg hf hd
        have d7 := hd ⟨7, .guard⟩ (by simp) rfl _ _ _ rfl rfl rfl
        have s9 : ρ (.tmp 9) = .int .i64 c := h0 9 (by kernel_rfl)
        refine ⟨fun _ => ?_, fun h => by rw [wantedBy_true rfl rfl rfl d7] at h; cases h⟩
        clear d7
        clear h0 hg hd
        exact gives_move rfl ⟨Chg.refl _ _, s9⟩
      · intro ρ w1 hw h0 hc hg hf hd
        have d12 := hd ⟨12, .data⟩ (by simp) rfl _ _ _ rfl rfl rfl
        have d13 := hd ⟨13, .data⟩ (by simp) rfl _ _ _ rfl rfl rfl
        have d14 := hd ⟨14, .data⟩ (by simp) rfl _ _ _ rfl rfl rfl
        have d15 := hd ⟨15, .data⟩ (by simp) rfl _ _ _ rfl rfl rfl
        have d7 := hd ⟨7, .guard⟩ (by simp) rfl _ _ _ rfl rfl rfl
        refine ⟨fun _ => ?_, fun h => by rw [wantedBy_true rfl rfl rfl d7] at h; cases h⟩
        clear d7
        clear h0 hg hd
        have LA := HLA.out.up (HC0.out.trans hw)
        have hcl := walk_any mb ch b c w1 LMB.out BMB.out KCH.out KB.out KC.out LA
        rw [EAB.out] at hcl
        refine gives_call rfl hf Tryd.func47 rfl (by kernel_rfl) (args := #[hashV mb, .int .i64 ch, .int .i64 b, .int .i64 c]) (by simp [hc, d12, d13, d14, d15]) ((hcl).mono ?_)
        rintro e w2 ⟨rfl, hb⟩
        exact ⟨_, rfl, up_below hb, rfl⟩
      · intro ρ w1 hw h0 hc hg hf hd
        have d7 := hd ⟨7, .guard⟩ (by simp) rfl _ _ _ rfl rfl rfl
        have s10 : ρ (.tmp 10) = .pointer (some ⟨B, 0, none⟩) := h0 10 (by kernel_rfl)
        refine ⟨fun _ => ?_, fun h => by rw [wantedBy_true rfl rfl rfl d7] at h; cases h⟩
        clear d7
        clear h0 hg hd
        clear hc hf
        rw [HCA.out]
        exact gives_load_row rfl s10 (hw.heap HAL.out (fun h => h)) Tryd.underlying25 rfl HSA.out ⟨Chg.refl _ _, rfl⟩
      · intro ρ w1 hw h0 hc hg hf hd
        have d16 := hd ⟨16, .data⟩ (by simp) rfl _ _ _ rfl rfl rfl
        have d17 := hd ⟨17, .data⟩ (by simp) rfl _ _ _ rfl rfl rfl
        have d7 := hd ⟨7, .guard⟩ (by simp) rfl _ _ _ rfl rfl rfl
        refine ⟨fun _ => ?_, fun h => by rw [wantedBy_true rfl rfl rfl d7] at h; cases h⟩
        clear d7
        clear h0 hg hd
        exact gives_same rfl d16 d17 LAL.out ⟨Chg.refl _ _, rfl⟩
      · intro ρ w1 hw h0 hc hg hf hd
        have d7 := hd ⟨7, .data⟩ (by simp) rfl _ _ _ rfl rfl rfl
        have d18 := hd ⟨18, .data⟩ (by simp) rfl _ _ _ rfl rfl rfl
        refine ⟨fun _ => ?_, fun h => by cases h⟩
        clear h0 hg hd
        clear hf
        refine Gives.value (w' := w1) ?_ ⟨Chg.refl _ _, rfl⟩
        go_simp
      · intro ρ w1 hw h0 hc hg hf hd
        have d19 := hd ⟨19, .data⟩ (by simp) rfl _ _ _ rfl rfl rfl
        refine ⟨fun _ => ?_, fun h => by cases h⟩
        clear h0 hg hd
        exact gives_move rfl ⟨Chg.refl _ _, d19⟩
      · intro ρ w1 hw h0 hc hg hf hd
        have d20 := hd ⟨20, .guard⟩ (by simp) rfl _ _ _ rfl rfl rfl
        have s3 : ρ (.tmp 3) = .pointer (some ⟨w.heap.size, 0, none⟩) := h0 3 (by kernel_rfl)
        refine ⟨fun _ => ?_, fun h => by rw [wantedBy_true rfl rfl rfl d20] at h; cases h⟩
        clear d20
        clear h0 hg hd
        clear hc hf
        rw [HCX.out]
        exact gives_load_row rfl s3 (hw.heap HX.out (fun h => h)) Tryd.underlying25 rfl HSX.out ⟨Chg.refl _ _, rfl⟩
      · intro ρ w1 hw h0 hc hg hf hd
        have d20 := hd ⟨20, .guard⟩ (by simp) rfl _ _ _ rfl rfl rfl
        have s1 : ρ (.tmp 1) = .int .i64 ch := h0 1 (by kernel_rfl)
        refine ⟨fun _ => ?_, fun h => by rw [wantedBy_true rfl rfl rfl d20] at h; cases h⟩
        clear d20
        clear h0 hg hd
        exact gives_move rfl ⟨Chg.refl _ _, s1⟩
      · intro ρ w1 hw h0 hc hg hf hd
        have d20 := hd ⟨20, .guard⟩ (by simp) rfl _ _ _ rfl rfl rfl
        have s9 : ρ (.tmp 9) = .int .i64 c := h0 9 (by kernel_rfl)
        refine ⟨fun _ => ?_, fun h => by rw [wantedBy_true rfl rfl rfl d20] at h; cases h⟩
        clear d20
        clear h0 hg hd
        exact gives_move rfl ⟨Chg.refl _ _, s9⟩
      · intro ρ w1 hw h0 hc hg hf hd
        have d20 := hd ⟨20, .guard⟩ (by simp) rfl _ _ _ rfl rfl rfl
        have s7 : ρ (.tmp 7) = .int .i64 a := h0 7 (by kernel_rfl)
        refine ⟨fun _ => ?_, fun h => by rw [wantedBy_true rfl rfl rfl d20] at h; cases h⟩
        clear d20
        clear h0 hg hd
        exact gives_move rfl ⟨Chg.refl _ _, s7⟩
      · intro ρ w1 hw h0 hc hg hf hd
        have d21 := hd ⟨21, .data⟩ (by simp) rfl _ _ _ rfl rfl rfl
        have d22 := hd ⟨22, .data⟩ (by simp) rfl _ _ _ rfl rfl rfl
        have d23 := hd ⟨23, .data⟩ (by simp) rfl _ _ _ rfl rfl rfl
        have d24 := hd ⟨24, .data⟩ (by simp) rfl _ _ _ rfl rfl rfl
        have d20 := hd ⟨20, .chain⟩ (by simp) rfl _ _ _ rfl rfl rfl
        refine ⟨fun _ => ?_, fun h => by rw [wantedBy_true rfl rfl rfl d20] at h; cases h⟩
        clear d20
        clear h0 hg hd
        have LA := HLA.out.up (HC0.out.trans hw)
        have hcl := walk_any h ch c a w1 HL.out HB.out KCH.out KC.out KA.out LA
        rw [EBK.out] at hcl
        refine gives_call rfl hf Tryd.func47 rfl (by kernel_rfl) (args := #[hashV h, .int .i64 ch, .int .i64 c, .int .i64 a]) (by simp [hc, d21, d22, d23, d24]) ((hcl).mono ?_)
        rintro e w2 ⟨rfl, hb⟩
        exact ⟨_, rfl, up_below hb, rfl⟩
      · intro ρ w1 hw h0 hc hg hf hd
        have d20 := hd ⟨20, .guard⟩ (by simp) rfl _ _ _ rfl rfl rfl
        have s3 : ρ (.tmp 3) = .pointer (some ⟨w.heap.size, 0, none⟩) := h0 3 (by kernel_rfl)
        refine ⟨fun _ => ?_, fun h => by rw [wantedBy_true rfl rfl rfl d20] at h; cases h⟩
        clear d20
        clear h0 hg hd
        clear hc hf
        rw [HCX.out]
        exact gives_load_row rfl s3 (hw.heap HX.out (fun h => h)) Tryd.underlying25 rfl HSX.out ⟨Chg.refl _ _, rfl⟩
      · intro ρ w1 hw h0 hc hg hf hd
        have d20 := hd ⟨20, .guard⟩ (by simp) rfl _ _ _ rfl rfl rfl
        have s1 : ρ (.tmp 1) = .int .i64 ch := h0 1 (by kernel_rfl)
        refine ⟨fun _ => ?_, fun h => by rw [wantedBy_true rfl rfl rfl d20] at h; cases h⟩
        clear d20
        clear h0 hg hd
        exact gives_move rfl ⟨Chg.refl _ _, s1⟩
      · intro ρ w1 hw h0 hc hg hf hd
        have d20 := hd ⟨20, .guard⟩ (by simp) rfl _ _ _ rfl rfl rfl
        have s9 : ρ (.tmp 9) = .int .i64 c := h0 9 (by kernel_rfl)
        refine ⟨fun _ => ?_, fun h => by rw [wantedBy_true rfl rfl rfl d20] at h; cases h⟩
        clear d20
        clear h0 hg hd
        exact gives_move rfl ⟨Chg.refl _ _, s9⟩
      · intro ρ w1 hw h0 hc hg hf hd
        have d20 := hd ⟨20, .guard⟩ (by simp) rfl _ _ _ rfl rfl rfl
        have s7 : ρ (.tmp 7) = .int .i64 a := h0 7 (by kernel_rfl)
        refine ⟨fun _ => ?_, fun h => by rw [wantedBy_true rfl rfl rfl d20] at h; cases h⟩
        clear d20
        clear h0 hg hd
        exact gives_move rfl ⟨Chg.refl _ _, s7⟩
      · intro ρ w1 hw h0 hc hg hf hd
        have d26 := hd ⟨26, .data⟩ (by simp) rfl _ _ _ rfl rfl rfl
        have d27 := hd ⟨27, .data⟩ (by simp) rfl _ _ _ rfl rfl rfl
        have d28 := hd ⟨28, .data⟩ (by simp) rfl _ _ _ rfl rfl rfl
        have d29 := hd ⟨29, .data⟩ (by simp) rfl _ _ _ rfl rfl rfl
        have d20 := hd ⟨20, .guard⟩ (by simp) rfl _ _ _ rfl rfl rfl
        refine ⟨fun _ => ?_, fun h => by rw [wantedBy_true rfl rfl rfl d20] at h; cases h⟩
        clear d20
        clear h0 hg hd
        have LA := HLA.out.up (HC0.out.trans hw)
        have hcl := walked_any h ch c a w1 HL.out HB.out KCH.out KC.out KA.out LA
        rw [EBK.out] at hcl
        refine gives_call rfl hf Tryd.func48 rfl (by kernel_rfl) (args := #[hashV h, .int .i64 ch, .int .i64 c, .int .i64 a]) (by simp [hc, d26, d27, d28, d29]) ((hcl).mono ?_)
        rintro e w2 ⟨rfl, hb⟩
        exact ⟨_, rfl, up_below hb, rfl⟩
      · intro ρ w1 hw h0 hc hg hf hd
        have d25 := hd ⟨25, .data⟩ (by simp) rfl _ _ _ rfl rfl rfl
        have d30 := hd ⟨30, .data⟩ (by simp) rfl _ _ _ rfl rfl rfl
        have d20 := hd ⟨20, .guard⟩ (by simp) rfl _ _ _ rfl rfl rfl
        refine ⟨fun _ => ?_, fun h => by rw [wantedBy_true rfl rfl rfl d20] at h; cases h⟩
        clear d20
        clear h0 hg hd
        exact gives_same rfl d25 d30 LBK.out ⟨Chg.refl _ _, rfl⟩
      · intro ρ w1 hw h0 hc hg hf hd
        have d20 := hd ⟨20, .data⟩ (by simp) rfl _ _ _ rfl rfl rfl
        have d31 := hd ⟨31, .data⟩ (by simp) rfl _ _ _ rfl rfl rfl
        refine ⟨fun _ => ?_, fun h => by cases h⟩
        clear h0 hg hd
        clear hf
        refine Gives.value (w' := w1) ?_ ⟨Chg.refl _ _, rfl⟩
        go_simp
      · intro ρ w1 hw h0 hc hg hf hd
        have d32 := hd ⟨32, .data⟩ (by simp) rfl _ _ _ rfl rfl rfl
        refine ⟨fun _ => ?_, fun h => by cases h⟩
        clear h0 hg hd
        exact gives_move rfl ⟨Chg.refl _ _, d32⟩
      · intro ρ w1 hw h0 hc hg hf hd
        have d33 := hd ⟨33, .chain⟩ (by simp) rfl _ _ _ rfl rfl rfl
        refine ⟨fun _ => ?_, fun h => by rw [wantedBy_true rfl rfl rfl d33] at h; cases h⟩
        clear d33
        clear h0 hg hd
        have LA := HLA.out.up (HC0.out.trans hw)
        refine gives_call rfl hf Tryd.func46 rfl (by kernel_rfl) (args := #[]) (by simp [hc]) ((awake4_any w1 LA).mono ?_)
        rintro e w2 ⟨rfl, hb⟩
        exact ⟨_, rfl, up_below hb, rfl⟩
      · intro ρ w1 hw h0 hc hg hf hd
        have d33 := hd ⟨33, .data⟩ (by simp) rfl _ _ _ rfl rfl rfl
        have d34 := hd ⟨34, .data⟩ (by simp) rfl _ _ _ rfl rfl rfl
        refine ⟨fun _ => ?_, fun h => by cases h⟩
        clear h0 hg hd
        clear hf
        refine Gives.value (w' := w1) ?_ ⟨Chg.refl _ _, rfl⟩
        go_simp
    · intro vs w2 hw hr
      have h35 := hr 35 _ rfl
      clear hr
      dsimp only [putsL, restL]
      simp only [Act.put, List.setIfInBounds_toArray, List.set_cons_zero, List.set_cons_succ]
      rw [h35]
      have HU := Lib.hid (HC0.out.trans hw)
      clear hw h35
      go_wp2
      go_ret
      exact ⟨rfl, HU.out.below_none (fun _ _ h => h)⟩
end Go.Proofs.YtaahffminoekfaaDoor
