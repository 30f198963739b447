/-
  Two hashes' digits; WotsDigits, walked.
-/
import Derived.Test.YtaahffminoekfaaDoorY5
namespace Go.Proofs.YtaahffminoekfaaDoor
open Go.RowKit
theorem digit_lo (h : List Int) (j : Nat) (hj : j < 64) : (digitsI h).getD j 0 = dgI h j := by
  unfold digitsI
  rw [List.getD_eq_getElem?_getD, List.getElem?_append_left (by rw [dgs_len]; exact hj)]
  unfold dgs
  rw [List.getElem?_map, List.getElem?_range hj]
  rfl
theorem digit_hi (h : List Int) (k : Nat) : (digitsI h).getD (64 + k) 0 = [lackI h 64 / 256, lackI h 64 / 16 % 16, lackI h 64 % 16].getD k 0 := by
  unfold digitsI
  rw [List.getD_eq_getElem?_getD, List.getElem?_append_right (by rw [dgs_len]; omega), dgs_len, Nat.add_sub_cancel_left, ← List.getD_eq_getElem?_getD]
theorem digit_bd (h : List Int) (hb : Bytes h) (j : Nat) (hj : j < 67) : 0 ≤ (digitsI h).getD j 0 ∧ (digitsI h).getD j 0 ≤ 15 := by
  by_cases hj2 : j < 64
  · rw [digit_lo h j hj2]; exact dgI_bd h hb j
  · have := lack_bd h hb 64
    obtain ⟨k, rfl⟩ := Nat.exists_eq_add_of_le (show 64 ≤ j by omega)
    rw [digit_hi]
    have : k = 0 ∨ k = 1 ∨ k = 2 := by omega
    rcases this with rfl | rfl | rfl <;> simp <;> omega
/-- Whether one of the first digits is less than the other's. -/
def lessI (a b : List Int) : Nat → Bool
  | 0 => false
  | n + 1 => lessI a b n || decide (a.getD n 0 < b.getD n 0)
theorem lessI_none (a b : List Int) (n : Nat) (h : lessI a b n = false) : ∀ j, j < n → b.getD j 0 ≤ a.getD j 0 := by
  induction n with
  | zero => intro j hj; omega
  | succ n ih =>
    simp only [lessI, Bool.or_eq_false_iff, decide_eq_false_iff_not] at h
    intro j hj
    rcases Nat.lt_succ_iff_lt_or_eq.1 hj with h1 | rfl
    · exact ih h.1 j h1
    · omega
theorem lessI_self (a : List Int) (n : Nat) : lessI a a n = false := by
  induction n with
  | zero => rfl
  | succ n ih => simp [lessI, ih]
theorem lack_le (x y : List Int) (n : Nat) (h : ∀ j, j < n → dgI y j ≤ dgI x j) : lackI x n ≤ lackI y n ∧ (lackI x n = lackI y n → ∀ j, j < n → dgI y j = dgI x j) := by
  induction n with
  | zero => exact ⟨Int.le_refl _, fun _ j hj => by omega⟩
  | succ n ih =>
    obtain ⟨i1, i2⟩ := ih (fun j hj => h j (by omega))
    have hn := h n (by omega)
    simp only [lackI]
    refine ⟨by omega, fun he j hj => ?_⟩
    rcases Nat.lt_succ_iff_lt_or_eq.1 hj with h1 | rfl
    · exact i2 (by omega) j h1
    · omega
theorem less_law (x y : List Int) (hx : x.length = 32) (hy : y.length = 32) (bx : Bytes x) (by' : Bytes y) : lessI (digitsI x) (digitsI y) 67 = !(x == y) := by
  by_cases he : x = y
  · subst he; rw [lessI_self]; simp
  · have : (x == y) = false := by simpa using he
    rw [this]
    cases hL : lessI (digitsI x) (digitsI y) 67 with
    | true => rfl
    | false =>
      exfalso
      have hall := lessI_none _ _ _ hL
      have h1 : ∀ j, j < 64 → dgI y j ≤ dgI x j := fun j hj => by
        have := hall j (by omega)
        rwa [digit_lo _ _ hj, digit_lo _ _ hj] at this
      obtain ⟨hle, heq⟩ := lack_le x y 64 h1
      have c0 := hall 64 (by omega)
      have c1 := hall 65 (by omega)
      have c2 := hall 66 (by omega)
      rw [digit_hi x 0, digit_hi y 0] at c0
      rw [digit_hi x 1, digit_hi y 1] at c1
      rw [digit_hi x 2, digit_hi y 2] at c2
      simp at c0 c1 c2
      have b1 := lack_bd x bx 64
      have b2 := lack_bd y by' 64
      have heq := heq (by omega)
      apply he
      refine List.ext_getElem (by omega) fun i hi1 hi2 => ?_
      have e1 := heq (2 * i) (by omega)
      have e2 := heq (2 * i + 1) (by omega)
      unfold dgI at e1 e2
      rw [if_pos (by omega), if_pos (by omega), show 2 * i / 2 = i by omega] at e1
      rw [if_neg (by omega), if_neg (by omega), show (2 * i + 1) / 2 = i by omega] at e2
      have hx1 := bx i
      have hy1 := by' i
      simp only [List.getD_eq_getElem?_getD, List.getElem?_eq_getElem hi1, List.getElem?_eq_getElem hi2, Option.getD_some] at e1 e2 hx1 hy1
      omega
theorem wpList_load_row_g {P : Program} {ops : Array Oper} {rest : List Oper} {o : Oper} {a : Act} {w : World} {Q : Exit → Act → World → Prop} (hw : Region.wanted o (yielded ops a.tmps) = true) (ty : TypeId) (x : Operand) (ho : o.op = .load ty x)
    (g : Nat) (hx : a.eval x = .pointer (some ⟨g, 0, none⟩)) (t : TypeId) (cs : Array Value) (fr : Nat × Nat) (d : TypeDesc) (hg : w.heap[g]? = some (.cells cs t fr))
    (hu : P.underlying ty = some d) (hd : (match d with | .struct _ | .array _ _ => true | _ => false) = true) (hi : (P.info? ty).map (·.size) = some cs.size)
    (h : wpList P ops Q rest (a.put o.dst (.agg cs)) w) : wpList P ops Q (o :: rest) a w :=
  BigFrame.wpList_want hw fun _ hK => wp_load_row ty x ho g hx t cs fr d hg hu hd hi (hK _ _ h)
/-- A slice that holds these 67 numbers. -/
def DigV (xs : List Int) (v : Value) (W : World) : Prop := ∃ g c, v = .slice (some ⟨g, 0, none⟩) 67 c ∧ 67 ≤ c ∧ c ≤ 9223372036854775807 ∧ ∀ j, j < 67 → W.cell? ⟨g, j, none⟩ = some (.int .i64 (xs.getD j 0))
theorem DigV.up {xs : List Int} {v : Value} {W W' : World} (h : DigV xs v W) (hu : Up W W') : DigV xs v W' := by
  obtain ⟨g, c, rfl, h1, h2, h3⟩ := h
  exact ⟨g, c, rfl, h1, h2, fun j hj => hu.cell (h3 j hj) (fun h => h)⟩
theorem DigV.of {W : World} {base : Nat} {v : Value} {xs : List Int} (h : W.ownsRow base 3 1 v 67 (i64s xs)) : DigV xs v W := by
  obtain ⟨g, c, rfl, _, _, h1, h2, h3⟩ := ints_cell h (by omega)
  exact ⟨g, c, rfl, h1, h2, h3⟩
set_option maxRecDepth 100000 in
set_option maxHeartbeats 4000000 in
theorem wotsDigits_any (x y : List Int) (w : World) (hlx : x.length = 32) (hbx : Bytes x) (hly : y.length = 32) (hby : Bytes y) (hla : Laid w) :
    Calls Tryd.prog 11 #[hashV x, hashV y] w (TruePost w) := by
  have hl2 := hla.lt
  obtain ⟨cx, hcx, hux, _, _, hsz, _⟩ := hash_parts x hlx
  obtain ⟨cy, hcy, huy, _, _, hszy, _⟩ := hash_parts y hly
  have HCX := Lib.hid hcx
  have HSX := Lib.hid hsz
  have HCY := Lib.hid hcy
  have HSY := Lib.hid hszy
  have q1 := eql25 x y hlx hly
  have q2 := fun op a b W => guard25 op a b x y W
  have LX := less_law x y hlx hly hbx hby
  have LY := less_law y x hly hlx hby hbx
  have HLW := Lib.hid (And.intro LX LY)
  rw [hcx, hcy] at q1 q2 ⊢
  have HBX := Lib.hid hbx
  have HLX := Lib.hid hlx
  have HBY := Lib.hid hby
  have HLY := Lib.hid hly
  have HLA := Lib.hid hla
  have HQ1 := Lib.hid q1
  have HQ2 := Lib.hid q2
  clear hcx hux hlx hbx hla hsz hcy huy hszy hly hby q1 q2 LX LY
  go_enter Tryd.func11, Tryd.ntmps11
  go_wp2_with fail
  obtain ⟨W0, hW0⟩ : ∃ W0, W0 = (w.alloc (.cells cx 25)).alloc (.cells cy 25) := ⟨_, rfl⟩
  rw [← hW0]
  have HY0 : Hid (W0.drew.heap[w.heap.size + 1]? = some (.cells cy 25 (0, 0))) := Lib.hid (by
    rw [hW0]; have := heap_alloc_last (w.alloc (.cells cx 25)) (.cells cy 25); rwa [World.size_alloc] at this)
  have HX0 : Hid (W0.drew.heap[w.heap.size]? = some (.cells cx 25 (0, 0))) := Lib.hid (by rw [hW0]; exact (Below.heap_alloc _ _ _ (by simp)).trans (heap_alloc_last _ _))
  have HC0 : Hid (Up w W0.drew) := Lib.hid (by rw [hW0]; exact (((Chg.refl _ w).alloc _).alloc _).drew)
  clear hW0
  refine region_mono Up [fun v _ => v = hashV x,
      DigV (digitsI x),
      fun v _ => v = hashV y,
      DigV (digitsI y),
      DigV (digitsI x),
      DigV (digitsI y)] (by kernel_rfl) (by kernel_rfl) (Chg.refl _) (fun _ _ _ => Chg.trans) (by simp) ?_ ?_ ?_
  · simp only [List.forall_mem_cons]
    exact ⟨fun _ _ _ _ _ h => h, fun _ _ _ _ hu h => DigV.up h hu, fun _ _ _ _ _ h => h, fun _ _ _ _ hu h => DigV.up h hu, fun _ _ _ _ hu h => DigV.up h hu, fun _ _ _ _ hu h => DigV.up h hu, by simp⟩
  · refine ⟨?_, ?_, ?_, ?_, ?_, ?_, trivial⟩
    · intro ρ w1 hw h0 hc hg hf hd
      have s2 : ρ (.tmp 2) = .pointer (some ⟨w.heap.size, 0, none⟩) := h0 2 (by kernel_rfl)
      refine ⟨fun _ => ?_, fun h => by cases h⟩
      clear h0 hg hd
      clear hc hf
      rw [HCX.out]
      exact gives_load_row rfl s2 (hw.heap HX0.out (fun h => h)) Tryd.underlying25 rfl HSX.out ⟨Chg.refl _ _, rfl⟩
    · intro ρ w1 hw h0 hc hg hf hd
      have d0 := hd ⟨0, .data⟩ (by simp) rfl _ _ _ rfl rfl rfl
      refine ⟨fun _ => ?_, fun h => by cases h⟩
      clear h0 hg hd
      refine gives_call rfl hf Tryd.func44 rfl (by kernel_rfl) (args := #[hashV x]) (by simp [hc, d0]) ((digits_any x HLX.out HBX.out w1).mono ?_)
      rintro e w2 ⟨v, rfl, ho, hb⟩
      exact ⟨v, rfl, up_below hb, DigV.of ho⟩
    · intro ρ w1 hw h0 hc hg hf hd
      have s3 : ρ (.tmp 3) = .pointer (some ⟨w.heap.size + 1, 0, none⟩) := h0 3 (by kernel_rfl)
      refine ⟨fun _ => ?_, fun h => by cases h⟩
      clear h0 hg hd
      clear hc hf
      rw [HCY.out]
      exact gives_load_row rfl s3 (hw.heap HY0.out (fun h => h)) Tryd.underlying25 rfl HSY.out ⟨Chg.refl _ _, rfl⟩
    · intro ρ w1 hw h0 hc hg hf hd
      have d2 := hd ⟨2, .data⟩ (by simp) rfl _ _ _ rfl rfl rfl
      refine ⟨fun _ => ?_, fun h => by cases h⟩
      clear h0 hg hd
      refine gives_call rfl hf Tryd.func44 rfl (by kernel_rfl) (args := #[hashV y]) (by simp [hc, d2]) ((digits_any y HLY.out HBY.out w1).mono ?_)
      rintro e w2 ⟨v, rfl, ho, hb⟩
      exact ⟨v, rfl, up_below hb, DigV.of ho⟩
    · intro ρ w1 hw h0 hc hg hf hd
      have d1 := hd ⟨1, .data⟩ (by simp) rfl _ _ _ rfl rfl rfl
      refine ⟨fun _ => ?_, fun h => by cases h⟩
      clear h0 hg hd
      exact gives_assign rfl ⟨Chg.refl _ _, d1⟩
    · intro ρ w1 hw h0 hc hg hf hd
      have d3 := hd ⟨3, .data⟩ (by simp) rfl _ _ _ rfl rfl rfl
      refine ⟨fun _ => ?_, fun h => by cases h⟩
      clear h0 hg hd
      exact gives_assign rfl ⟨Chg.refl _ _, d3⟩
  · intro vs w2 hw hr
    have h4 := hr 4 _ rfl
    have h5 := hr 5 _ rfl
    clear hr
    dsimp only [putsL, restL]
    simp only [Act.put, List.setIfInBounds_toArray, List.set_cons_zero, List.set_cons_succ]
    have hw1 := hw
    obtain ⟨ga, ca, e1, ha1, ha2, hca⟩ := h4
    obtain ⟨gb, cb, e3, hb1, hb2, hcb⟩ := h5
    rw [e1, e3]
    have HX := Lib.hid (hw.heap HX0.out (fun h => h))
    have HY := Lib.hid (hw.heap HY0.out (fun h => h))
    have HU := Lib.hid (HC0.out.trans hw)
    have HCA := Lib.hid hca
    have HCB := Lib.hid hcb
    clear hw hw1 e1 e3 HX0 HY0 HC0 hca hcb
    rename World => W1
    have hcall := refDigits_any x HLX.out HBX.out W1
    rw [HCX.out] at hcall
    have HCALL := Lib.hid hcall
    clear hcall
    go_wp2_with (refine wpList_load_row rfl 25 (.tmp 2) rfl w.heap.size (by rfl) 25 cx (0, 0) _ HX.out Tryd.underlying25 rfl HSX.out ?_)
    refine HCALL.out.mono ?_
    rintro e W2 ⟨v, rfl, ho, hb⟩
    obtain ⟨gr, cr, rfl, hr1, hr2, hcr⟩ := DigV.of ho
    have hu2 : Up W1 W2 := up_below hb
    have HX2 := Lib.hid (hu2.heap HX.out (fun h => h))
    have HY2 := Lib.hid (hu2.heap HY.out (fun h => h))
    have HU2 := Lib.hid (HU.out.trans hu2)
    have HCA2 := Lib.hid (fun j hj => hu2.cell (HCA.out j hj) (fun h => h))
    have HCB2 := Lib.hid (fun j hj => hu2.cell (HCB.out j hj) (fun h => h))
    have HCR2 := Lib.hid hcr
    clear hu2 ho hb hcr HCALL HX HY HU HCA HCB
    go_wp2_with fail
    go_loopw [8, 9, 27] (fun l mr i wr => ∃ (k : Nat), k ≤ 67 ∧ i = .int .i64 k ∧ l = .bool (lessI (digitsI x) (digitsI y) k) ∧ mr = .bool (lessI (digitsI y) (digitsI x) k) ∧ Up W2 wr) (fun _ _ i _ => 67 - (intOf i).toNat)
    case atStart => exact ⟨0, by omega, rfl, rfl, rfl, Chg.refl _ _⟩
    case round =>
      rename World => wo
      obtain ⟨k, hk, rfl, rfl, rfl, hu⟩ := hrel
      have e1 : lessI (digitsI x) (digitsI y) (k + 1) = (lessI (digitsI x) (digitsI y) k || decide ((digitsI x).getD k 0 < (digitsI y).getD k 0)) := rfl
      have e2 : lessI (digitsI y) (digitsI x) (k + 1) = (lessI (digitsI y) (digitsI x) k || decide ((digitsI y).getD k 0 < (digitsI x).getD k 0)) := rfl
      by_cases hk2 : (k : Int) < 67
      · have bd := digit_bd x HBX.out k (by omega)
        have c1 := hu.drew.cell (HCA2.out k (by omega)) (fun h => h)
        have c2 := hu.drew.cell (HCB2.out k (by omega)) (fun h => h)
        have c3 := hu.drew.cell (HCR2.out k (by omega)) (fun h => h)
        obtain ⟨p, hp⟩ : ∃ p, (digitsI x).getD k 0 = p := ⟨_, rfl⟩
        obtain ⟨q, hq⟩ : ∃ q, (digitsI y).getD k 0 = q := ⟨_, rfl⟩
        obtain ⟨l, hl⟩ : ∃ l, lessI (digitsI x) (digitsI y) k = l := ⟨_, rfl⟩
        obtain ⟨r, hr⟩ : ∃ r, lessI (digitsI y) (digitsI x) k = r := ⟨_, rfl⟩
        rw [hp] at c1 c3 bd
        rw [hq] at c2
        rw [hp, hq, hl] at e1
        rw [hp, hq, hr] at e2
        rw [hl, hr]
        obtain ⟨hp0, hp1⟩ := bd
        have CA := Lib.hid c1
        have CB := Lib.hid c2
        have CR := Lib.hid c3
        have E1 := Lib.hid e1
        have E2 := Lib.hid e2
        have HU3 := Lib.hid hu
        clear c1 c2 c3 e1 e2 hp hq hl hr hu HX2 HY2 HU2 HCA2 HCB2 HCR2 HLW HQ1 HQ2 HBX HBY HLX HLY HCX HCY HSX HSY
        go_wp2_with fail
        refine region_mono Up [fun v _ => v = .slice (some ⟨ga, 0, none⟩) 67 ca,
            fun v _ => v = .int .i64 k,
            fun v _ => v = .pointer (some ⟨ga, k, none⟩),
            fun v _ => v = .int .i64 p,
            fun v _ => v = .slice (some ⟨gr, 0, none⟩) 67 cr,
            fun v _ => v = .int .i64 k,
            fun v _ => v = .pointer (some ⟨gr, k, none⟩),
            fun v _ => v = .int .i64 p,
            fun v _ => v = .bool false,
            fun v _ => v = .bool false,
            fun v _ => v = .slice (some ⟨ga, 0, none⟩) 67 ca,
            fun v _ => v = .int .i64 k,
            fun v _ => v = .pointer (some ⟨ga, k, none⟩),
            fun v _ => v = .int .i64 p,
            fun v _ => v = .bool false,
            fun v _ => v = .bool false,
            fun v _ => v = .bool false,
            fun v _ => v = .slice (some ⟨ga, 0, none⟩) 67 ca,
            fun v _ => v = .int .i64 k,
            fun v _ => v = .pointer (some ⟨ga, k, none⟩),
            fun v _ => v = .int .i64 p,
            fun v _ => v = .bool false,
            fun v _ => v = .bool false] (by kernel_rfl) (by kernel_rfl) (Chg.refl _) (fun _ _ _ => Chg.trans) (by simp) ?_ ?_ ?_
        · simp only [List.forall_mem_cons]
          exact ⟨fun _ _ _ _ _ h => h, fun _ _ _ _ _ h => h, fun _ _ _ _ _ h => h, fun _ _ _ _ _ h => h, fun _ _ _ _ _ h => h, fun _ _ _ _ _ h => h, fun _ _ _ _ _ h => h, fun _ _ _ _ _ h => h, fun _ _ _ _ _ h => h, fun _ _ _ _ _ h => h, fun _ _ _ _ _ h => h, fun _ _ _ _ _ h => h, fun _ _ _ _ _ h => h, fun _ _ _ _ _ h => h, fun _ _ _ _ _ h => h, fun _ _ _ _ _ h => h, fun _ _ _ _ _ h => h, fun _ _ _ _ _ h => h, fun _ _ _ _ _ h => h, fun _ _ _ _ _ h => h, fun _ _ _ _ _ h => h, fun _ _ _ _ _ h => h, fun _ _ _ _ _ h => h, by simp⟩
        · refine ⟨?_, ?_, ?_, ?_, ?_, ?_, ?_, ?_, ?_, ?_, ?_, ?_, ?_, ?_, ?_, ?_, ?_, ?_, ?_, ?_, ?_, ?_, ?_, trivial⟩
          · intro ρ w1 hw h0 hc hg hf hd
            have s5 : ρ (.tmp 5) = .slice (some ⟨ga, 0, none⟩) 67 ca := h0 5 (by kernel_rfl)
            refine ⟨fun _ => ?_, fun h => by cases h⟩
            clear h0 hg hd
            exact gives_move rfl ⟨Chg.refl _ _, s5⟩
          · intro ρ w1 hw h0 hc hg hf hd
            have s10 : ρ (.tmp 10) = .int .i64 k := h0 10 (by kernel_rfl)
            refine ⟨fun _ => ?_, fun h => by cases h⟩
            clear h0 hg hd
            exact gives_move rfl ⟨Chg.refl _ _, s10⟩
          · intro ρ w1 hw h0 hc hg hf hd
            have d0 := hd ⟨0, .data⟩ (by simp) rfl _ _ _ rfl rfl rfl
            have d1 := hd ⟨1, .data⟩ (by simp) rfl _ _ _ rfl rfl rfl
            refine ⟨fun _ => ?_, fun h => by cases h⟩
            clear h0 hg hd
            clear hf
            refine Gives.value (w' := w1) ?_ ⟨Chg.refl _ _, rfl⟩
            go_simp
          · intro ρ w1 hw h0 hc hg hf hd
            have d2 := hd ⟨2, .data⟩ (by simp) rfl _ _ _ rfl rfl rfl
            refine ⟨fun _ => ?_, fun h => by cases h⟩
            clear h0 hg hd
            clear hc hf
            have c0 := hw.cell CA.out (fun h => h)
            refine Gives.value (w' := w1) ?_ ⟨Chg.refl _ _, rfl⟩
            go_simp
          · intro ρ w1 hw h0 hc hg hf hd
            have s7 : ρ (.tmp 7) = .slice (some ⟨gr, 0, none⟩) 67 cr := h0 7 (by kernel_rfl)
            refine ⟨fun _ => ?_, fun h => by cases h⟩
            clear h0 hg hd
            exact gives_move rfl ⟨Chg.refl _ _, s7⟩
          · intro ρ w1 hw h0 hc hg hf hd
            have s10 : ρ (.tmp 10) = .int .i64 k := h0 10 (by kernel_rfl)
            refine ⟨fun _ => ?_, fun h => by cases h⟩
            clear h0 hg hd
            exact gives_move rfl ⟨Chg.refl _ _, s10⟩
          · intro ρ w1 hw h0 hc hg hf hd
            have d4 := hd ⟨4, .data⟩ (by simp) rfl _ _ _ rfl rfl rfl
            have d5 := hd ⟨5, .data⟩ (by simp) rfl _ _ _ rfl rfl rfl
            refine ⟨fun _ => ?_, fun h => by cases h⟩
            clear h0 hg hd
            clear hf
            refine Gives.value (w' := w1) ?_ ⟨Chg.refl _ _, rfl⟩
            go_simp
          · intro ρ w1 hw h0 hc hg hf hd
            have d6 := hd ⟨6, .data⟩ (by simp) rfl _ _ _ rfl rfl rfl
            refine ⟨fun _ => ?_, fun h => by cases h⟩
            clear h0 hg hd
            clear hc hf
            have c0 := hw.cell CR.out (fun h => h)
            refine Gives.value (w' := w1) ?_ ⟨Chg.refl _ _, rfl⟩
            go_simp
          · intro ρ w1 hw h0 hc hg hf hd
            have d3 := hd ⟨3, .data⟩ (by simp) rfl _ _ _ rfl rfl rfl
            have d7 := hd ⟨7, .data⟩ (by simp) rfl _ _ _ rfl rfl rfl
            refine ⟨fun _ => ?_, fun h => by cases h⟩
            clear h0 hg hd
            clear hf
            refine Gives.value (w' := w1) ?_ ⟨Chg.refl _ _, rfl⟩
            go_simp
          · intro ρ w1 hw h0 hc hg hf hd
            have d8 := hd ⟨8, .data⟩ (by simp) rfl _ _ _ rfl rfl rfl
            refine ⟨fun _ => ?_, fun h => by cases h⟩
            clear h0 hg hd
            exact gives_move rfl ⟨Chg.refl _ _, d8⟩
          · intro ρ w1 hw h0 hc hg hf hd
            have d9 := hd ⟨9, .guard⟩ (by simp) rfl _ _ _ rfl rfl rfl
            have s5 : ρ (.tmp 5) = .slice (some ⟨ga, 0, none⟩) 67 ca := h0 5 (by kernel_rfl)
            refine ⟨fun _ => ?_, fun h => by rw [wantedBy_true rfl rfl rfl d9] at h; cases h⟩
            clear d9
            clear h0 hg hd
            exact gives_move rfl ⟨Chg.refl _ _, s5⟩
          · intro ρ w1 hw h0 hc hg hf hd
            have d9 := hd ⟨9, .guard⟩ (by simp) rfl _ _ _ rfl rfl rfl
            have s10 : ρ (.tmp 10) = .int .i64 k := h0 10 (by kernel_rfl)
            refine ⟨fun _ => ?_, fun h => by rw [wantedBy_true rfl rfl rfl d9] at h; cases h⟩
            clear d9
            clear h0 hg hd
            exact gives_move rfl ⟨Chg.refl _ _, s10⟩
          · intro ρ w1 hw h0 hc hg hf hd
            have d10 := hd ⟨10, .data⟩ (by simp) rfl _ _ _ rfl rfl rfl
            have d11 := hd ⟨11, .data⟩ (by simp) rfl _ _ _ rfl rfl rfl
            have d9 := hd ⟨9, .guard⟩ (by simp) rfl _ _ _ rfl rfl rfl
            refine ⟨fun _ => ?_, fun h => by rw [wantedBy_true rfl rfl rfl d9] at h; cases h⟩
            clear d9
            clear h0 hg hd
            clear hf
            refine Gives.value (w' := w1) ?_ ⟨Chg.refl _ _, rfl⟩
            go_simp
          · intro ρ w1 hw h0 hc hg hf hd
            have d12 := hd ⟨12, .data⟩ (by simp) rfl _ _ _ rfl rfl rfl
            have d9 := hd ⟨9, .guard⟩ (by simp) rfl _ _ _ rfl rfl rfl
            refine ⟨fun _ => ?_, fun h => by rw [wantedBy_true rfl rfl rfl d9] at h; cases h⟩
            clear d9
            clear h0 hg hd
            clear hc hf
            have c0 := hw.cell CA.out (fun h => h)
            refine Gives.value (w' := w1) ?_ ⟨Chg.refl _ _, rfl⟩
            go_simp
          · intro ρ w1 hw h0 hc hg hf hd
            have d13 := hd ⟨13, .data⟩ (by simp) rfl _ _ _ rfl rfl rfl
            have d9 := hd ⟨9, .guard⟩ (by simp) rfl _ _ _ rfl rfl rfl
            refine ⟨fun _ => ?_, fun h => by rw [wantedBy_true rfl rfl rfl d9] at h; cases h⟩
            clear d9
            clear h0 hg hd
            clear hf
            refine Gives.value (w' := w1) ?_ ⟨Chg.refl _ _, rfl⟩
            go_simp
          · intro ρ w1 hw h0 hc hg hf hd
            have d9 := hd ⟨9, .data⟩ (by simp) rfl _ _ _ rfl rfl rfl
            have d14 := hd ⟨14, .data⟩ (by simp) rfl _ _ _ rfl rfl rfl
            refine ⟨fun _ => ?_, fun h => by cases h⟩
            clear h0 hg hd
            clear hf
            refine Gives.value (w' := w1) ?_ ⟨Chg.refl _ _, rfl⟩
            go_simp
          · intro ρ w1 hw h0 hc hg hf hd
            have d15 := hd ⟨15, .data⟩ (by simp) rfl _ _ _ rfl rfl rfl
            refine ⟨fun _ => ?_, fun h => by cases h⟩
            clear h0 hg hd
            exact gives_move rfl ⟨Chg.refl _ _, d15⟩
          · intro ρ w1 hw h0 hc hg hf hd
            have d16 := hd ⟨16, .guard⟩ (by simp) rfl _ _ _ rfl rfl rfl
            have s5 : ρ (.tmp 5) = .slice (some ⟨ga, 0, none⟩) 67 ca := h0 5 (by kernel_rfl)
            refine ⟨fun _ => ?_, fun h => by rw [wantedBy_true rfl rfl rfl d16] at h; cases h⟩
            clear d16
            clear h0 hg hd
            exact gives_move rfl ⟨Chg.refl _ _, s5⟩
          · intro ρ w1 hw h0 hc hg hf hd
            have d16 := hd ⟨16, .guard⟩ (by simp) rfl _ _ _ rfl rfl rfl
            have s10 : ρ (.tmp 10) = .int .i64 k := h0 10 (by kernel_rfl)
            refine ⟨fun _ => ?_, fun h => by rw [wantedBy_true rfl rfl rfl d16] at h; cases h⟩
            clear d16
            clear h0 hg hd
            exact gives_move rfl ⟨Chg.refl _ _, s10⟩
          · intro ρ w1 hw h0 hc hg hf hd
            have d17 := hd ⟨17, .data⟩ (by simp) rfl _ _ _ rfl rfl rfl
            have d18 := hd ⟨18, .data⟩ (by simp) rfl _ _ _ rfl rfl rfl
            have d16 := hd ⟨16, .guard⟩ (by simp) rfl _ _ _ rfl rfl rfl
            refine ⟨fun _ => ?_, fun h => by rw [wantedBy_true rfl rfl rfl d16] at h; cases h⟩
            clear d16
            clear h0 hg hd
            clear hf
            refine Gives.value (w' := w1) ?_ ⟨Chg.refl _ _, rfl⟩
            go_simp
          · intro ρ w1 hw h0 hc hg hf hd
            have d19 := hd ⟨19, .data⟩ (by simp) rfl _ _ _ rfl rfl rfl
            have d16 := hd ⟨16, .guard⟩ (by simp) rfl _ _ _ rfl rfl rfl
            refine ⟨fun _ => ?_, fun h => by rw [wantedBy_true rfl rfl rfl d16] at h; cases h⟩
            clear d16
            clear h0 hg hd
            clear hc hf
            have c0 := hw.cell CA.out (fun h => h)
            refine Gives.value (w' := w1) ?_ ⟨Chg.refl _ _, rfl⟩
            go_simp
          · intro ρ w1 hw h0 hc hg hf hd
            have d20 := hd ⟨20, .data⟩ (by simp) rfl _ _ _ rfl rfl rfl
            have d16 := hd ⟨16, .guard⟩ (by simp) rfl _ _ _ rfl rfl rfl
            refine ⟨fun _ => ?_, fun h => by rw [wantedBy_true rfl rfl rfl d16] at h; cases h⟩
            clear d16
            clear h0 hg hd
            clear hf
            refine Gives.value (w' := w1) ?_ ⟨Chg.refl _ _, rfl⟩
            go_simp
          · intro ρ w1 hw h0 hc hg hf hd
            have d16 := hd ⟨16, .data⟩ (by simp) rfl _ _ _ rfl rfl rfl
            have d21 := hd ⟨21, .data⟩ (by simp) rfl _ _ _ rfl rfl rfl
            refine ⟨fun _ => ?_, fun h => by cases h⟩
            clear h0 hg hd
            clear hf
            refine Gives.value (w' := w1) ?_ ⟨Chg.refl _ _, rfl⟩
            go_simp
        · intro vs w2 hw hr
          have h22 := hr 22 _ rfl
          clear hr
          dsimp only [putsL, restL]
          simp only [Act.put, List.setIfInBounds_toArray, List.set_cons_zero, List.set_cons_succ]
          rw [h22]
          clear h22
          have c1 := hw.cell CA.out (fun h => h)
          have c2 := hw.cell CB.out (fun h => h)
          have HU4 := Lib.hid (HU3.out.drew.trans hw)
          clear hw CA CB CR HU3
          go_wp2_with fail
          cases l
          all_goals
            go_quiet (fail)
            go_wp2_with fail
            cases r
          all_goals
            go_quiet (fail)
            go_wp2
            go_roundw
            case rel => exact ⟨k + 1, by omega, by go_num, by rw [E1.out]; simp, by rw [E2.out]; simp, by first | exact HU4.out.drewN _ | exact (HU4.out.drewN _).drewN _ | exact ((HU4.out.drewN _).drew).drewN _⟩
            case measure => simp [intOf]; omega
      · obtain rfl : k = 67 := by omega
        have HX3 := Lib.hid (hu.heap HX2.out (fun h => h))
        have HY3 := Lib.hid (hu.heap HY2.out (fun h => h))
        have HU3 := Lib.hid (HU2.out.trans hu)
        have q1 := HQ1.out
        have q2 := HQ2.out
        have HAW := Lib.hid (awake4_any wo (HLA.out.up HU3.out))
        rw [HLW.out.1, HLW.out.2]
        have hsy : (y == x) = (x == y) := BEq.comm
        rw [hsy]
        obtain ⟨e, he⟩ : ∃ e, (x == y) = e := ⟨_, rfl⟩
        rw [he] at q1 ⊢
        clear e1 e2 hu he hsy HX2 HY2 HU2 HCA2 HCB2 HCR2 HLW HQ1 HQ2 HBX HBY HLX HLY HCX HCY HLA
        cases e
        all_goals
          go_wp2_with (first
            | refine wpList_load_row rfl 25 (.tmp 2) rfl w.heap.size (by rfl) 25 cx (0, 0) _ HX3.out Tryd.underlying25 rfl HSX.out ?_
            | refine wpList_load_row rfl 25 (.tmp 3) rfl (w.heap.size + 1) (by rfl) 25 cy (0, 0) _ HY3.out Tryd.underlying25 rfl HSY.out ?_
            | refine wpList_load_row_g (by rfl) 25 (.tmp 2) rfl w.heap.size (by rfl) 25 cx (0, 0) _ HX3.out Tryd.underlying25 rfl HSX.out ?_
            | refine wpList_load_row_g (by rfl) 25 (.tmp 3) rfl (w.heap.size + 1) (by rfl) 25 cy (0, 0) _ HY3.out Tryd.underlying25 rfl HSY.out ?_
            | go_at_call 46; refine HAW.out.mono ?_; rintro e w' ⟨rfl, hb⟩)
          go_ret
          exact ⟨rfl, (HU3.out.trans (up_below hb)).below_none (fun _ _ h => h)⟩
end Go.Proofs.YtaahffminoekfaaDoor
