/-
  One call to both disks: Read, Tamper; all of them.
-/
import Derived.Test.YtkndnlhlglgmfaaE26
namespace Go.Proofs.Ytkndnlhlglgmfaa
open Go.RowKit
theorem tamper_twice (x : Dk) (i : Int) (xs : List Int) : tamperI (tamperI x i xs).1 i xs = ((tamperI x i xs).1, (tamperI x i xs).2) := by
  have hc : checkI (tamperI x i xs).1 i xs.length = checkI x i xs.length := by
    unfold checkI
    rw [(tamper_form x i xs).1, (tamper_form x i xs).2]
  by_cases h : checkI x i xs.length ≠ 0
  · have e : tamperI x i xs = (x, checkI x i xs.length) := by unfold tamperI; rw [if_pos h]
    rw [e]
    dsimp only
    exact e
  · have e : tamperI x i xs = ({ x with has := x.has.set i.toNat xs, ca := updI x.ca i none }, 0) := by unfold tamperI; rw [if_neg h]
    rw [e] at hc ⊢
    dsimp only at hc ⊢
    unfold tamperI
    rw [hc, if_neg h]
    dsimp only
    rw [List.set_set]
    congr 2
    funext j
    unfold updI
    split <;> rfl
theorem nowI_len {x : Dk} {k : Nat} (h : Wf x k) (i : Int) : (nowI x i).length ≤ 1000000 := by
  unfold nowI
  cases hc : x.ca i with
  | some xs => exact h.fit _ (.inr ⟨i, hc⟩)
  | none => exact h.fit _ (.inl ⟨_, rfl⟩)
/-- The disk may have turned. -/
def TExt (p b : Nat) (sv : Value) (x y : Dk) (k : Nat) (w w' : World) : Prop := Chg (OwnD p b sv) w w' ∧ (DskV w p b sv x k → DskV w' p b sv x k ∨ DskV w' p b sv y k) ∧ (DskV w p b sv y k → DskV w' p b sv y k)
theorem TExt.refl {p b : Nat} {sv : Value} {x y : Dk} {k : Nat} (w : World) : TExt p b sv x y k w w := ⟨Chg.refl _ _, .inl, fun h => h⟩
theorem TExt.trans {p b : Nat} {sv : Value} {x y : Dk} {k : Nat} {a c d : World} (h : TExt p b sv x y k a c) (h2 : TExt p b sv x y k c d) : TExt p b sv x y k a d :=
  ⟨h.1.trans h2.1, fun hx => (h.2.1 hx).elim h2.2.1 (fun hy => .inr (h2.2.2 hy)), fun hy => h2.2.2 (h.2.2 hy)⟩
set_option maxRecDepth 100000 in
set_option maxHeartbeats 4000000 in
theorem step6 (w : World) (p b q : Nat) (sv s1 s2 : Value) (x : Dk) (k : Nat) (o : OpI) (d1 d2 : Value) (h : StepAt w p b q sv s1 s2 x k o d1 d2) (hkind : o.kind = 6) : Calls Try.prog 41 #[.pointer (some ⟨p, 0, none⟩), .pointer (some ⟨q, 0, none⟩), .agg #[.int .i64 o.kind, .int .i64 o.sec, .int .i64 o.num, d1, d2]] w (SPost w p b q sv s1 s2 ((tamperI x o.sec o.dat).1) (k + 1)) := by
  obtain ⟨A1, cc1, rfl, x1, x2⟩ := h.dat.shape
  obtain ⟨A2, cc2, rfl, y1, y2⟩ := h.lost.shape
  have hu0 : Up w (w.alloc (.cells #[.int .i64 6, .int .i64 o.sec, .int .i64 o.num, .slice A1 o.dat.length cc1, .slice A2 o.lost.length cc2] 31)) := (Chg.refl _ w).alloc _
  have hbox := heap_alloc_last w (.cells #[.int .i64 6, .int .i64 o.sec, .int .i64 o.num, .slice A1 o.dat.length cc1, .slice A2 o.lost.length cc2] 31)
  have hd0 := h.d.up hu0
  have hr0 := h.r.up hu0
  have HH := Lib.hid h
  have HU0 : Hid (Chg (OwnB p b q sv s1 s2) w (w.alloc (.cells #[.int .i64 6, .int .i64 o.sec, .int .i64 o.num, .slice A1 o.dat.length cc1, .slice A2 o.lost.length cc2] 31))) := Lib.hid (hu0.mono (fun _ _ h => h.elim))
  have HD0 : Hid (DskV (w.alloc (.cells #[.int .i64 6, .int .i64 o.sec, .int .i64 o.num, .slice A1 o.dat.length cc1, .slice A2 o.lost.length cc2] 31)).drew p b sv x k) := Lib.hid (hd0.up (Chg.refl _ _).drew)
  have HR0 : Hid (RefX (w.alloc (.cells #[.int .i64 6, .int .i64 o.sec, .int .i64 o.num, .slice A1 o.dat.length cc1, .slice A2 o.lost.length cc2] 31)).drew q s1 s2 x) := Lib.hid (hr0.up (Chg.refl _ _).drew)
  have HQ1 : Hid ((w.alloc (.cells #[.int .i64 6, .int .i64 o.sec, .int .i64 o.num, .slice A1 o.dat.length cc1, .slice A2 o.lost.length cc2] 31)).drew.cell? ⟨w.heap.size, 1, none⟩ = some (.int .i64 o.sec)) := Lib.hid (cell_of_row (w.alloc (.cells #[.int .i64 6, .int .i64 o.sec, .int .i64 o.num, .slice A1 o.dat.length cc1, .slice A2 o.lost.length cc2] 31)) w.heap.size 1 _ _ _ hbox)
  have HQ3 : Hid ((w.alloc (.cells #[.int .i64 6, .int .i64 o.sec, .int .i64 o.num, .slice A1 o.dat.length cc1, .slice A2 o.lost.length cc2] 31)).drew.cell? ⟨w.heap.size, 3, none⟩ = some (.slice A1 o.dat.length cc1)) := Lib.hid (cell_of_row (w.alloc (.cells #[.int .i64 6, .int .i64 o.sec, .int .i64 o.num, .slice A1 o.dat.length cc1, .slice A2 o.lost.length cc2] 31)) w.heap.size 3 _ _ _ hbox)
  have HDAT : Hid (SlB (w.alloc (.cells #[.int .i64 6, .int .i64 o.sec, .int .i64 o.num, .slice A1 o.dat.length cc1, .slice A2 o.lost.length cc2] 31)).drew (.slice A1 o.dat.length cc1) o.dat) := Lib.hid (Src.chg h.dat hu0.drew (fun _ _ _ h => h) (by decide))
  have HU1 : Hid (Chg (OwnB p b q sv s1 s2) w (w.alloc (.cells #[.int .i64 6, .int .i64 o.sec, .int .i64 o.num, .slice A1 o.dat.length cc1, .slice A2 o.lost.length cc2] 31)).drew) := Lib.hid HU0.out.drew
  have hwy := h.wf.wf.tamper o.sec o.dat
  have hy2 := tamper_twice x o.sec o.dat
  obtain ⟨y, hy⟩ : ∃ y, (tamperI x o.sec o.dat).1 = y := ⟨_, rfl⟩
  obtain ⟨r, hr⟩ : ∃ r, (tamperI x o.sec o.dat).2 = r := ⟨_, rfl⟩
  rw [hy, hr] at hy2
  rw [hy] at hwy ⊢
  have HY : Hid (tamperI x o.sec o.dat = (y, r)) := Lib.hid (by rw [← hy, ← hr])
  have HY2 := Lib.hid hy2
  have HWY := Lib.hid hwy
  clear hu0 hbox hd0 hr0 h hwy hy2 hy hr HU0
  go_enter Try.func41, Try.ntmps41
  rw [hkind]
  go_wp2_with fail
  refine MT.region_mono (TExt p b sv x y k) [fun v _ => v = .pointer (some ⟨p, 0, none⟩),
      fun v _ => v = .pointer (some ⟨w.heap.size, 1, none⟩),
      fun v _ => v = .int .i64 o.sec,
      fun v _ => v = .pointer (some ⟨w.heap.size, 3, none⟩),
      fun v _ => v = .slice A1 o.dat.length cc1,
      fun v W => v = .int .i64 r ∧ DskV W p b sv y k,
      fun v _ => v = .pointer (some ⟨q, 0, none⟩),
      fun v _ => v = .pointer (some ⟨w.heap.size, 1, none⟩),
      fun v _ => v = .int .i64 o.sec,
      fun v _ => v = .pointer (some ⟨w.heap.size, 3, none⟩),
      fun v _ => v = .slice A1 o.dat.length cc1] (by kernel_rfl) (by kernel_rfl) TExt.refl (fun _ _ _ => TExt.trans) (by simp) ?_ ?_ ?_
  · simp only [List.forall_mem_cons]
    exact ⟨fun _ _ _ _ _ h => h, fun _ _ _ _ _ h => h, fun _ _ _ _ _ h => h, fun _ _ _ _ _ h => h, fun _ _ _ _ _ h => h, fun _ _ _ _ hu h => ⟨h.1, hu.2.2 h.2⟩, fun _ _ _ _ _ h => h, fun _ _ _ _ _ h => h, fun _ _ _ _ _ h => h, fun _ _ _ _ _ h => h, fun _ _ _ _ _ h => h, by simp⟩
  · refine ⟨?_, ?_, ?_, ?_, ?_, ?_, ?_, ?_, ?_, ?_, ?_, trivial⟩
    · intro ρ w1 hw h0 hc hg hf hd
      have s0 : ρ (.tmp 0) = .pointer (some ⟨p, 0, none⟩) := h0 0 (by kernel_rfl)
      refine ⟨fun _ => ?_, fun h => by cases h⟩
      clear h0 hg hd
      exact gives_move rfl ⟨TExt.refl _, s0⟩
    · intro ρ w1 hw h0 hc hg hf hd
      have s5 : ρ (.tmp 5) = .pointer (some ⟨w.heap.size, 0, none⟩) := h0 5 (by kernel_rfl)
      refine ⟨fun _ => ?_, fun h => by cases h⟩
      clear h0 hg hd
      clear hf hc
      refine Gives.value (w' := w1) ?_ ⟨TExt.refl _, rfl⟩
      go_simp
    · intro ρ w1 hw h0 hc hg hf hd
      have d1 := hd ⟨1, .data⟩ (by simp) rfl _ _ _ rfl rfl rfl
      refine ⟨fun _ => ?_, fun h => by cases h⟩
      clear h0 hg hd
      clear hc hf
      have c1 := hw.1.cell HQ1.out (fun h => by have := HH.out.d.lt _ h; dsimp only at this; omega)
      refine Gives.value (w' := w1) ?_ ⟨TExt.refl _, rfl⟩
      go_simp
    · intro ρ w1 hw h0 hc hg hf hd
      have s5 : ρ (.tmp 5) = .pointer (some ⟨w.heap.size, 0, none⟩) := h0 5 (by kernel_rfl)
      refine ⟨fun _ => ?_, fun h => by cases h⟩
      clear h0 hg hd
      clear hf hc
      refine Gives.value (w' := w1) ?_ ⟨TExt.refl _, rfl⟩
      go_simp
    · intro ρ w1 hw h0 hc hg hf hd
      have d3 := hd ⟨3, .data⟩ (by simp) rfl _ _ _ rfl rfl rfl
      refine ⟨fun _ => ?_, fun h => by cases h⟩
      clear h0 hg hd
      clear hc hf
      have c1 := hw.1.cell HQ3.out (fun h => by have := HH.out.d.lt _ h; dsimp only at this; omega)
      refine Gives.value (w' := w1) ?_ ⟨TExt.refl _, rfl⟩
      go_simp
    · intro ρ w1 hw h0 hc hg hf hd
      have d0 := hd ⟨0, .data⟩ (by simp) rfl _ _ _ rfl rfl rfl
      have d2 := hd ⟨2, .data⟩ (by simp) rfl _ _ _ rfl rfl rfl
      have d4 := hd ⟨4, .data⟩ (by simp) rfl _ _ _ rfl rfl rfl
      refine ⟨fun _ => ?_, fun h => by cases h⟩
      clear h0 hg hd
      have hsd := Src.chg HDAT.out hw.1 (fun g hg h0 hn => HH.out.sp1 g hg h0 (.inl hn)) (by decide)
      refine gives_call rfl hf Try.func23 rfl (by kernel_rfl) (args := #[.pointer (some ⟨p, 0, none⟩), .int .i64 o.sec, .slice A1 o.dat.length cc1]) (by simp [d0, d2, d4]) ?_
      rcases hw.2.1 HD0.out with hdx | hdx
      · have hv := vtamper w1 p b sv x k hdx HH.out.wf.wf o.sec _ o.dat hsd (by have := HH.out.n1; omega)
        rw [HY.out] at hv
        refine hv.mono ?_
        rintro e w2 ⟨rfl, hd2, hc2⟩
        exact ⟨_, rfl, ⟨hc2, fun _ => .inr hd2, fun _ => hd2⟩, rfl, hd2⟩
      · have hv := vtamper w1 p b sv y k hdx HWY.out o.sec _ o.dat hsd (by have := HH.out.n1; omega)
        rw [HY2.out] at hv
        refine hv.mono ?_
        rintro e w2 ⟨rfl, hd2, hc2⟩
        exact ⟨_, rfl, ⟨hc2, fun _ => .inr hd2, fun _ => hd2⟩, rfl, hd2⟩
    · intro ρ w1 hw h0 hc hg hf hd
      have s1 : ρ (.tmp 1) = .pointer (some ⟨q, 0, none⟩) := h0 1 (by kernel_rfl)
      refine ⟨fun _ => ?_, fun h => by cases h⟩
      clear h0 hg hd
      exact gives_move rfl ⟨TExt.refl _, s1⟩
    · intro ρ w1 hw h0 hc hg hf hd
      have s5 : ρ (.tmp 5) = .pointer (some ⟨w.heap.size, 0, none⟩) := h0 5 (by kernel_rfl)
      refine ⟨fun _ => ?_, fun h => by cases h⟩
      clear h0 hg hd
      clear hf hc
      refine Gives.value (w' := w1) ?_ ⟨TExt.refl _, rfl⟩
      go_simp
    · intro ρ w1 hw h0 hc hg hf hd
      have d7 := hd ⟨7, .data⟩ (by simp) rfl _ _ _ rfl rfl rfl
      refine ⟨fun _ => ?_, fun h => by cases h⟩
      clear h0 hg hd
      clear hc hf
      have c1 := hw.1.cell HQ1.out (fun h => by have := HH.out.d.lt _ h; dsimp only at this; omega)
      refine Gives.value (w' := w1) ?_ ⟨TExt.refl _, rfl⟩
      go_simp
    · intro ρ w1 hw h0 hc hg hf hd
      have s5 : ρ (.tmp 5) = .pointer (some ⟨w.heap.size, 0, none⟩) := h0 5 (by kernel_rfl)
      refine ⟨fun _ => ?_, fun h => by cases h⟩
      clear h0 hg hd
      clear hf hc
      refine Gives.value (w' := w1) ?_ ⟨TExt.refl _, rfl⟩
      go_simp
    · intro ρ w1 hw h0 hc hg hf hd
      have d9 := hd ⟨9, .data⟩ (by simp) rfl _ _ _ rfl rfl rfl
      refine ⟨fun _ => ?_, fun h => by cases h⟩
      clear h0 hg hd
      clear hc hf
      have c1 := hw.1.cell HQ3.out (fun h => by have := HH.out.d.lt _ h; dsimp only at this; omega)
      refine Gives.value (w' := w1) ?_ ⟨TExt.refl _, rfl⟩
      go_simp
  · intro vs w2 hw hr
    have h5 := hr 5 _ rfl
    have h6 := hr 6 _ rfl
    have h8 := hr 8 _ rfl
    have h10 := hr 10 _ rfl
    clear hr
    dsimp only [putsL, restL]
    simp only [Act.put, List.setIfInBounds_toArray, List.set_cons_zero, List.set_cons_succ]
    obtain ⟨h5, hd2⟩ := h5
    simp only [Nat.zero_add, Nat.reduceAdd]
    rw [h5, h6, h8, h10]
    have hr2 := HR0.out.keepD HD0.out hw.1
    have hsd2 := Src.chg HDAT.out hw.1 (fun g hg h0 hn => HH.out.sp1 g hg h0 (.inl hn)) (by decide)
    have hxt := xtamper w2 q s1 s2 x k hr2 HH.out.wf o.sec HH.out.ok.2.1 _ o.dat hsd2
    rw [HY.out] at hxt
    have HXT := Lib.hid hxt
    have HX2 : Hid (DskV w2 p b sv y k ∧ RefX w2 q s1 s2 x ∧ Chg (OwnB p b q sv s1 s2) w w2) := Lib.hid ⟨hd2, hr2, HU1.out.then hw.1 (fun i hi => .inl (.inl hi))⟩
    clear hw h5 h6 h8 h10 hd2 hr2 hsd2 hxt
    go_wp2_with fail
    refine HXT.out.mono ?_
    rintro e w3 ⟨rfl, hr3, hc3⟩
    have HD3 := Lib.hid ((HX2.out.1.keepR HX2.out.2.1 hc3).le (Nat.le_succ k))
    have HR3 := Lib.hid hr3
    have HC3 := Lib.hid (HX2.out.2.2.then hc3 (fun i hi => .inl (.inr hi)))
    clear hr3 hc3 HXT
    go_wp2_with fail
    go_ret
    exact ⟨by simp, HD3.out, HR3.out, HC3.out⟩
set_option maxRecDepth 100000 in
set_option maxHeartbeats 4000000 in
theorem step3a (w : World) (p b q : Nat) (sv s1 s2 : Value) (x : Dk) (k : Nat) (o : OpI) (d1 d2 : Value) (h : StepAt w p b q sv s1 s2 x k o d1 d2) (hkind : o.kind = 3 ∧ x.down = true) : Calls Try.prog 41 #[.pointer (some ⟨p, 0, none⟩), .pointer (some ⟨q, 0, none⟩), .agg #[.int .i64 o.kind, .int .i64 o.sec, .int .i64 o.num, d1, d2]] w (SPost w p b q sv s1 s2 (x) (k + 1)) := by
  obtain ⟨hkind, hdn⟩ := hkind
  obtain ⟨A1, cc1, rfl, x1, x2⟩ := h.dat.shape
  obtain ⟨A2, cc2, rfl, y1, y2⟩ := h.lost.shape
  have hu0 : Up w (w.alloc (.cells #[.int .i64 3, .int .i64 o.sec, .int .i64 o.num, .slice A1 o.dat.length cc1, .slice A2 o.lost.length cc2] 31)) := (Chg.refl _ w).alloc _
  have hbox := heap_alloc_last w (.cells #[.int .i64 3, .int .i64 o.sec, .int .i64 o.num, .slice A1 o.dat.length cc1, .slice A2 o.lost.length cc2] 31)
  have hd0 := h.d.up hu0
  have hr0 := h.r.up hu0
  have HH := Lib.hid h
  have HU0 : Hid (Chg (OwnB p b q sv s1 s2) w (w.alloc (.cells #[.int .i64 3, .int .i64 o.sec, .int .i64 o.num, .slice A1 o.dat.length cc1, .slice A2 o.lost.length cc2] 31))) := Lib.hid (hu0.mono (fun _ _ h => h.elim))
  have hsec := h.ok.2.1
  have hrd := vread _ p b sv x k hd0 h.wf.wf o.sec hsec
  have HD0 := Lib.hid hd0
  have HR0 := Lib.hid hr0
  have HBOX := Lib.hid hbox
  obtain ⟨n, hn⟩ : ∃ n, x.has.length = n := ⟨_, rfl⟩
  have HN := Lib.hid hn
  have hnb := h.wf.wf.num
  have hnum := h.wf.num
  rw [hn] at hnb hnum
  obtain ⟨hsec1, hsec2⟩ := hsec
  unfold readI at hrd
  rw [hn] at hrd
  obtain ⟨L, ar, hF, _, _⟩ := hr0
  rw [hn] at hF
  obtain ⟨g1, c1, rfl⟩ := own_some hF.r1 hnum
  obtain ⟨g2, c2, rfl⟩ := own_some hF.r2 hnum
  have HF := Lib.hid hF
  clear hu0 hbox hd0 h hF
  rw [hdn, if_pos rfl] at hrd
  have HRD := Lib.hid hrd
  clear hrd
  go_enter Try.func41, Try.ntmps41
  rw [hkind]
  go_wp2_with fail
  refine HRD.out.mono ?_
  rintro e w1 ⟨v, rfl, hv, hb⟩
  have hu1 := up_below hb
  have q6 := (HF.out.up hu1).c6
  rw [hdn] at q6
  obtain ⟨A3, c3, rfl⟩ := own_shape hv
  have HX1 : Hid (DskV w1 p b sv x (k + 1) ∧ RefX w1 q (.slice (some ⟨g1, 0, none⟩) n c1) (.slice (some ⟨g2, 0, none⟩) n c2) x ∧ Chg (OwnB p b q sv (.slice (some ⟨g1, 0, none⟩) n c1) (.slice (some ⟨g2, 0, none⟩) n c2)) w w1) := Lib.hid ⟨(HD0.out.up hu1).le (Nat.le_succ k), HR0.out.up hu1, HU0.out.then hu1 (fun _ h => h.elim)⟩
  clear hv hb hu1 HRD
  dsimp only [List.length_nil]
  go_wp2_with fail
  go_ret
  exact ⟨rfl, HX1.out⟩
set_option maxRecDepth 100000 in
set_option maxHeartbeats 4000000 in
theorem step3b (w : World) (p b q : Nat) (sv s1 s2 : Value) (x : Dk) (k : Nat) (o : OpI) (d1 d2 : Value) (h : StepAt w p b q sv s1 s2 x k o d1 d2) (hkind : o.kind = 3 ∧ x.down = false ∧ (o.sec < 0 ∨ (x.has.length : Int) ≤ o.sec)) : Calls Try.prog 41 #[.pointer (some ⟨p, 0, none⟩), .pointer (some ⟨q, 0, none⟩), .agg #[.int .i64 o.kind, .int .i64 o.sec, .int .i64 o.num, d1, d2]] w (SPost w p b q sv s1 s2 (x) (k + 1)) := by
  obtain ⟨hkind, hdn, hr⟩ := hkind
  obtain ⟨A1, cc1, rfl, x1, x2⟩ := h.dat.shape
  obtain ⟨A2, cc2, rfl, y1, y2⟩ := h.lost.shape
  have hu0 : Up w (w.alloc (.cells #[.int .i64 3, .int .i64 o.sec, .int .i64 o.num, .slice A1 o.dat.length cc1, .slice A2 o.lost.length cc2] 31)) := (Chg.refl _ w).alloc _
  have hbox := heap_alloc_last w (.cells #[.int .i64 3, .int .i64 o.sec, .int .i64 o.num, .slice A1 o.dat.length cc1, .slice A2 o.lost.length cc2] 31)
  have hd0 := h.d.up hu0
  have hr0 := h.r.up hu0
  have HH := Lib.hid h
  have HU0 : Hid (Chg (OwnB p b q sv s1 s2) w (w.alloc (.cells #[.int .i64 3, .int .i64 o.sec, .int .i64 o.num, .slice A1 o.dat.length cc1, .slice A2 o.lost.length cc2] 31))) := Lib.hid (hu0.mono (fun _ _ h => h.elim))
  have hsec := h.ok.2.1
  have hrd := vread _ p b sv x k hd0 h.wf.wf o.sec hsec
  have HD0 := Lib.hid hd0
  have HR0 := Lib.hid hr0
  have HBOX := Lib.hid hbox
  obtain ⟨n, hn⟩ : ∃ n, x.has.length = n := ⟨_, rfl⟩
  have HN := Lib.hid hn
  have hnb := h.wf.wf.num
  have hnum := h.wf.num
  rw [hn] at hnb hnum
  obtain ⟨hsec1, hsec2⟩ := hsec
  unfold readI at hrd
  rw [hn] at hrd
  obtain ⟨L, ar, hF, _, _⟩ := hr0
  rw [hn] at hF
  obtain ⟨g1, c1, rfl⟩ := own_some hF.r1 hnum
  obtain ⟨g2, c2, rfl⟩ := own_some hF.r2 hnum
  have HF := Lib.hid hF
  clear hu0 hbox hd0 h hF
  rw [hn] at hr
  rw [hdn, if_neg (by simp)] at hrd
  rw [if_pos hr] at hrd
  have HRD := Lib.hid hrd
  clear hrd
  go_enter Try.func41, Try.ntmps41
  rw [hkind]
  go_wp2_with fail
  refine HRD.out.mono ?_
  rintro e w1 ⟨v, rfl, hv, hb⟩
  have hu1 := up_below hb
  have q6 := (HF.out.up hu1).c6
  rw [hdn] at q6
  obtain ⟨A3, c3, rfl⟩ := own_shape hv
  have HX1 : Hid (DskV w1 p b sv x (k + 1) ∧ RefX w1 q (.slice (some ⟨g1, 0, none⟩) n c1) (.slice (some ⟨g2, 0, none⟩) n c2) x ∧ Chg (OwnB p b q sv (.slice (some ⟨g1, 0, none⟩) n c1) (.slice (some ⟨g2, 0, none⟩) n c2)) w w1) := Lib.hid ⟨(HD0.out.up hu1).le (Nat.le_succ k), HR0.out.up hu1, HU0.out.then hu1 (fun _ h => h.elim)⟩
  have HQ1 : Hid (w1.drew.cell? ⟨w.heap.size, 1, none⟩ = some (.int .i64 o.sec)) := Lib.hid (cell_of_row w1 w.heap.size 1 _ _ _ (hu1.heap HBOX.out (fun h => h)))
  have HC0 : Hid (w1.drew.cell? ⟨q, 0, none⟩ = some (.slice (some ⟨g1, 0, none⟩) n c1)) := Lib.hid (HF.out.up hu1).c0
  clear hv hb hu1 HRD
  dsimp only [List.length_nil]
  by_cases hneg : o.sec < 0
  · go_wp2_with fail
    refine MT.region_mono Up [fun v _ => v = .pointer (some ⟨w.heap.size, 1, none⟩),
        fun v _ => v = .int .i64 o.sec,
        fun v _ => v = .bool true,
        fun v _ => v = .bool true,
        fun _ _ => True,
        fun _ _ => True,
        fun _ _ => True,
        fun _ _ => True,
        fun _ _ => True,
        fun _ _ => True,
        fun _ _ => True,
        fun _ _ => True,
        fun v _ => v = .bool true] (by kernel_rfl) (by kernel_rfl) (Chg.refl _) (fun _ _ _ => Chg.trans) (by simp) ?_ ?_ ?_
    · simp only [List.forall_mem_cons]
      exact ⟨fun _ _ _ _ _ h => h, fun _ _ _ _ _ h => h, fun _ _ _ _ _ h => h, fun _ _ _ _ _ h => h, fun _ _ _ _ _ h => h, fun _ _ _ _ _ h => h, fun _ _ _ _ _ h => h, fun _ _ _ _ _ h => h, fun _ _ _ _ _ h => h, fun _ _ _ _ _ h => h, fun _ _ _ _ _ h => h, fun _ _ _ _ _ h => h, fun _ _ _ _ _ h => h, by simp⟩
    · refine ⟨?_, ?_, ?_, ?_, ?_, ?_, ?_, ?_, ?_, ?_, ?_, ?_, ?_, trivial⟩
      · intro ρ w1 hw h0 hc hg hf hd
        have s5 : ρ (.tmp 5) = .pointer (some ⟨w.heap.size, 0, none⟩) := h0 5 (by kernel_rfl)
        refine ⟨fun _ => ?_, fun h => by cases h⟩
        clear h0 hg hd
        clear hf hc
        refine Gives.value (w' := w1) ?_ ⟨Chg.refl _ _, rfl⟩
        go_simp
      · intro ρ w1 hw h0 hc hg hf hd
        have d0 := hd ⟨0, .data⟩ (by simp) rfl _ _ _ rfl rfl rfl
        refine ⟨fun _ => ?_, fun h => by cases h⟩
        clear h0 hg hd
        clear hc hf
        have c1 := hw.cell HQ1.out (fun h => h)
        refine Gives.value (w' := w1) ?_ ⟨Chg.refl _ _, rfl⟩
        go_simp
      · intro ρ w1 hw h0 hc hg hf hd
        have d1 := hd ⟨1, .data⟩ (by simp) rfl _ _ _ rfl rfl rfl
        refine ⟨fun _ => ?_, fun h => by cases h⟩
        clear h0 hg hd
        clear hf
        refine Gives.value (w' := w1) ?_ ⟨Chg.refl _ _, rfl⟩
        go_simp
      · intro ρ w1 hw h0 hc hg hf hd
        have d2 := hd ⟨2, .data⟩ (by simp) rfl _ _ _ rfl rfl rfl
        refine ⟨fun _ => ?_, fun h => by cases h⟩
        clear h0 hg hd
        exact gives_move rfl ⟨Chg.refl _ _, d2⟩
      · intro ρ w1 hw h0 hc hg hf hd
        have d3 := hd ⟨3, .guard⟩ (by simp) rfl _ _ _ rfl rfl rfl
        exact ⟨fun hx => (by rw [wantedBy_false rfl rfl rfl d3] at hx; cases hx), fun _ => trivial⟩
      · intro ρ w1 hw h0 hc hg hf hd
        have d3 := hd ⟨3, .guard⟩ (by simp) rfl _ _ _ rfl rfl rfl
        exact ⟨fun hx => (by rw [wantedBy_false rfl rfl rfl d3] at hx; cases hx), fun _ => trivial⟩
      · intro ρ w1 hw h0 hc hg hf hd
        have d3 := hd ⟨3, .guard⟩ (by simp) rfl _ _ _ rfl rfl rfl
        exact ⟨fun hx => (by rw [wantedBy_false rfl rfl rfl d3] at hx; cases hx), fun _ => trivial⟩
      · intro ρ w1 hw h0 hc hg hf hd
        have d3 := hd ⟨3, .guard⟩ (by simp) rfl _ _ _ rfl rfl rfl
        exact ⟨fun hx => (by rw [wantedBy_false rfl rfl rfl d3] at hx; cases hx), fun _ => trivial⟩
      · intro ρ w1 hw h0 hc hg hf hd
        have d3 := hd ⟨3, .guard⟩ (by simp) rfl _ _ _ rfl rfl rfl
        exact ⟨fun hx => (by rw [wantedBy_false rfl rfl rfl d3] at hx; cases hx), fun _ => trivial⟩
      · intro ρ w1 hw h0 hc hg hf hd
        have d3 := hd ⟨3, .guard⟩ (by simp) rfl _ _ _ rfl rfl rfl
        exact ⟨fun hx => (by rw [wantedBy_false rfl rfl rfl d3] at hx; cases hx), fun _ => trivial⟩
      · intro ρ w1 hw h0 hc hg hf hd
        have d3 := hd ⟨3, .guard⟩ (by simp) rfl _ _ _ rfl rfl rfl
        exact ⟨fun hx => (by rw [wantedBy_false rfl rfl rfl d3] at hx; cases hx), fun _ => trivial⟩
      · intro ρ w1 hw h0 hc hg hf hd
        have d3 := hd ⟨3, .guard⟩ (by simp) rfl _ _ _ rfl rfl rfl
        exact ⟨fun hx => (by rw [wantedBy_false rfl rfl rfl d3] at hx; cases hx), fun _ => trivial⟩
      · intro ρ w1 hw h0 hc hg hf hd
        have d3 := hd ⟨3, .data⟩ (by simp) rfl _ _ _ rfl rfl rfl
        have d11 := hd ⟨11, .data⟩ (by simp) rfl _ _ _ rfl rfl rfl
        refine ⟨fun _ => ?_, fun h => by cases h⟩
        clear h0 hg hd
        refine Gives.value (w' := w1) ?_ ⟨Chg.refl _ _, rfl⟩
        go_simp
    · intro vs w2 hw hr
      have h12 := hr 12 _ rfl
      clear hr
      dsimp only [putsL, restL]
      simp only [Act.put, List.setIfInBounds_toArray, List.set_cons_zero, List.set_cons_succ]
      simp only [Nat.zero_add, Nat.reduceAdd]
      rw [h12]
      have HX2 : Hid (DskV w2 p b sv x (k + 1) ∧ RefX w2 q (.slice (some ⟨g1, 0, none⟩) n c1) (.slice (some ⟨g2, 0, none⟩) n c2) x ∧ Chg (OwnB p b q sv (.slice (some ⟨g1, 0, none⟩) n c1) (.slice (some ⟨g2, 0, none⟩) n c2)) w w2) := Lib.hid (by
        have hu2 : Up w1 w2 := (Chg.refl (fun _ => False) w1).drew.trans hw
        exact ⟨HX1.out.1.up hu2, HX1.out.2.1.up hu2, HX1.out.2.2.then hu2 (fun _ h => h.elim)⟩)
      clear hw h12 HX1
      go_wp2_with fail
      go_ret
      exact ⟨rfl, HX2.out⟩
  · have hov : (n : Int) ≤ o.sec := by omega
    go_wp2_with fail
    refine MT.region_mono Up [fun v _ => v = .pointer (some ⟨w.heap.size, 1, none⟩),
        fun v _ => v = .int .i64 o.sec,
        fun v _ => v = .bool false,
        fun v _ => v = .bool false,
        fun v _ => v = .pointer (some ⟨w.heap.size, 1, none⟩),
        fun v _ => v = .int .i64 o.sec,
        fun v _ => v = .pointer (some ⟨q, 0, none⟩),
        fun v _ => v = .pointer (some ⟨q, 0, none⟩),
        fun v _ => v = .pointer (some ⟨q, 0, none⟩),
        fun v _ => v = .slice (some ⟨g1, 0, none⟩) n c1,
        fun v _ => v = .int .i64 (n : Int),
        fun v _ => v = .bool true,
        fun v _ => v = .bool true] (by kernel_rfl) (by kernel_rfl) (Chg.refl _) (fun _ _ _ => Chg.trans) (by simp) ?_ ?_ ?_
    · simp only [List.forall_mem_cons]
      exact ⟨fun _ _ _ _ _ h => h, fun _ _ _ _ _ h => h, fun _ _ _ _ _ h => h, fun _ _ _ _ _ h => h, fun _ _ _ _ _ h => h, fun _ _ _ _ _ h => h, fun _ _ _ _ _ h => h, fun _ _ _ _ _ h => h, fun _ _ _ _ _ h => h, fun _ _ _ _ _ h => h, fun _ _ _ _ _ h => h, fun _ _ _ _ _ h => h, fun _ _ _ _ _ h => h, by simp⟩
    · refine ⟨?_, ?_, ?_, ?_, ?_, ?_, ?_, ?_, ?_, ?_, ?_, ?_, ?_, trivial⟩
      · intro ρ w1 hw h0 hc hg hf hd
        have s5 : ρ (.tmp 5) = .pointer (some ⟨w.heap.size, 0, none⟩) := h0 5 (by kernel_rfl)
        refine ⟨fun _ => ?_, fun h => by cases h⟩
        clear h0 hg hd
        clear hf hc
        refine Gives.value (w' := w1) ?_ ⟨Chg.refl _ _, rfl⟩
        go_simp
      · intro ρ w1 hw h0 hc hg hf hd
        have d0 := hd ⟨0, .data⟩ (by simp) rfl _ _ _ rfl rfl rfl
        refine ⟨fun _ => ?_, fun h => by cases h⟩
        clear h0 hg hd
        clear hc hf
        have c1 := hw.cell HQ1.out (fun h => h)
        refine Gives.value (w' := w1) ?_ ⟨Chg.refl _ _, rfl⟩
        go_simp
      · intro ρ w1 hw h0 hc hg hf hd
        have d1 := hd ⟨1, .data⟩ (by simp) rfl _ _ _ rfl rfl rfl
        refine ⟨fun _ => ?_, fun h => by cases h⟩
        clear h0 hg hd
        clear hf
        refine Gives.value (w' := w1) ?_ ⟨Chg.refl _ _, rfl⟩
        go_simp
      · intro ρ w1 hw h0 hc hg hf hd
        have d2 := hd ⟨2, .data⟩ (by simp) rfl _ _ _ rfl rfl rfl
        refine ⟨fun _ => ?_, fun h => by cases h⟩
        clear h0 hg hd
        exact gives_move rfl ⟨Chg.refl _ _, d2⟩
      · intro ρ w1 hw h0 hc hg hf hd
        have d3 := hd ⟨3, .guard⟩ (by simp) rfl _ _ _ rfl rfl rfl
        have s5 : ρ (.tmp 5) = .pointer (some ⟨w.heap.size, 0, none⟩) := h0 5 (by kernel_rfl)
        refine ⟨fun _ => ?_, fun h => by rw [wantedBy_true rfl rfl rfl d3] at h; cases h⟩
        clear d3
        clear h0 hg hd
        clear hf hc
        refine Gives.value (w' := w1) ?_ ⟨Chg.refl _ _, rfl⟩
        go_simp
      · intro ρ w1 hw h0 hc hg hf hd
        have d4 := hd ⟨4, .data⟩ (by simp) rfl _ _ _ rfl rfl rfl
        have d3 := hd ⟨3, .guard⟩ (by simp) rfl _ _ _ rfl rfl rfl
        refine ⟨fun _ => ?_, fun h => by rw [wantedBy_true rfl rfl rfl d3] at h; cases h⟩
        clear d3
        clear h0 hg hd
        clear hc hf
        have c1 := hw.cell HQ1.out (fun h => h)
        refine Gives.value (w' := w1) ?_ ⟨Chg.refl _ _, rfl⟩
        go_simp
      · intro ρ w1 hw h0 hc hg hf hd
        have d3 := hd ⟨3, .guard⟩ (by simp) rfl _ _ _ rfl rfl rfl
        have s1 : ρ (.tmp 1) = .pointer (some ⟨q, 0, none⟩) := h0 1 (by kernel_rfl)
        refine ⟨fun _ => ?_, fun h => by rw [wantedBy_true rfl rfl rfl d3] at h; cases h⟩
        clear d3
        clear h0 hg hd
        exact gives_move rfl ⟨Chg.refl _ _, s1⟩
      · intro ρ w1 hw h0 hc hg hf hd
        have d6 := hd ⟨6, .data⟩ (by simp) rfl _ _ _ rfl rfl rfl
        have d3 := hd ⟨3, .guard⟩ (by simp) rfl _ _ _ rfl rfl rfl
        refine ⟨fun _ => ?_, fun h => by rw [wantedBy_true rfl rfl rfl d3] at h; cases h⟩
        clear d3
        clear h0 hg hd
        clear hf
        refine Gives.value (w' := w1) ?_ ⟨Chg.refl _ _, rfl⟩
        go_simp
      · intro ρ w1 hw h0 hc hg hf hd
        have d7 := hd ⟨7, .data⟩ (by simp) rfl _ _ _ rfl rfl rfl
        have d3 := hd ⟨3, .guard⟩ (by simp) rfl _ _ _ rfl rfl rfl
        refine ⟨fun _ => ?_, fun h => by rw [wantedBy_true rfl rfl rfl d3] at h; cases h⟩
        clear d3
        clear h0 hg hd
        clear hf
        refine Gives.value (w' := w1) ?_ ⟨Chg.refl _ _, rfl⟩
        go_simp
      · intro ρ w1 hw h0 hc hg hf hd
        have d8 := hd ⟨8, .data⟩ (by simp) rfl _ _ _ rfl rfl rfl
        have d3 := hd ⟨3, .guard⟩ (by simp) rfl _ _ _ rfl rfl rfl
        refine ⟨fun _ => ?_, fun h => by rw [wantedBy_true rfl rfl rfl d3] at h; cases h⟩
        clear d3
        clear h0 hg hd
        clear hc hf
        have c1 := hw.cell HC0.out (fun h => h)
        refine Gives.value (w' := w1) ?_ ⟨Chg.refl _ _, rfl⟩
        go_simp
      · intro ρ w1 hw h0 hc hg hf hd
        have d9 := hd ⟨9, .data⟩ (by simp) rfl _ _ _ rfl rfl rfl
        have d3 := hd ⟨3, .guard⟩ (by simp) rfl _ _ _ rfl rfl rfl
        refine ⟨fun _ => ?_, fun h => by rw [wantedBy_true rfl rfl rfl d3] at h; cases h⟩
        clear d3
        clear h0 hg hd
        clear hf
        refine Gives.value (w' := w1) ?_ ⟨Chg.refl _ _, rfl⟩
        go_simp
      · intro ρ w1 hw h0 hc hg hf hd
        have d5 := hd ⟨5, .data⟩ (by simp) rfl _ _ _ rfl rfl rfl
        have d10 := hd ⟨10, .data⟩ (by simp) rfl _ _ _ rfl rfl rfl
        have d3 := hd ⟨3, .guard⟩ (by simp) rfl _ _ _ rfl rfl rfl
        refine ⟨fun _ => ?_, fun h => by rw [wantedBy_true rfl rfl rfl d3] at h; cases h⟩
        clear d3
        clear h0 hg hd
        clear hf
        refine Gives.value (w' := w1) ?_ ⟨Chg.refl _ _, rfl⟩
        go_simp
      · intro ρ w1 hw h0 hc hg hf hd
        have d3 := hd ⟨3, .data⟩ (by simp) rfl _ _ _ rfl rfl rfl
        have d11 := hd ⟨11, .data⟩ (by simp) rfl _ _ _ rfl rfl rfl
        refine ⟨fun _ => ?_, fun h => by cases h⟩
        clear h0 hg hd
        refine Gives.value (w' := w1) ?_ ⟨Chg.refl _ _, rfl⟩
        go_simp
    · intro vs w2 hw hr
      have h12 := hr 12 _ rfl
      clear hr
      dsimp only [putsL, restL]
      simp only [Act.put, List.setIfInBounds_toArray, List.set_cons_zero, List.set_cons_succ]
      simp only [Nat.zero_add, Nat.reduceAdd]
      rw [h12]
      have HX2 : Hid (DskV w2 p b sv x (k + 1) ∧ RefX w2 q (.slice (some ⟨g1, 0, none⟩) n c1) (.slice (some ⟨g2, 0, none⟩) n c2) x ∧ Chg (OwnB p b q sv (.slice (some ⟨g1, 0, none⟩) n c1) (.slice (some ⟨g2, 0, none⟩) n c2)) w w2) := Lib.hid (by
        have hu2 : Up w1 w2 := (Chg.refl (fun _ => False) w1).drew.trans hw
        exact ⟨HX1.out.1.up hu2, HX1.out.2.1.up hu2, HX1.out.2.2.then hu2 (fun _ h => h.elim)⟩)
      clear hw h12 HX1
      go_wp2_with fail
      go_ret
      exact ⟨rfl, HX2.out⟩
set_option maxRecDepth 100000 in
set_option maxHeartbeats 4000000 in
theorem step3c (w : World) (p b q : Nat) (sv s1 s2 : Value) (x : Dk) (k : Nat) (o : OpI) (d1 d2 : Value) (h : StepAt w p b q sv s1 s2 x k o d1 d2) (hkind : o.kind = 3 ∧ x.down = false ∧ ¬ (o.sec < 0 ∨ (x.has.length : Int) ≤ o.sec)) : Calls Try.prog 41 #[.pointer (some ⟨p, 0, none⟩), .pointer (some ⟨q, 0, none⟩), .agg #[.int .i64 o.kind, .int .i64 o.sec, .int .i64 o.num, d1, d2]] w (SPost w p b q sv s1 s2 (x) (k + 1)) := by
  obtain ⟨hkind, hdn, hr⟩ := hkind
  obtain ⟨A1, cc1, rfl, x1, x2⟩ := h.dat.shape
  obtain ⟨A2, cc2, rfl, y1, y2⟩ := h.lost.shape
  have hu0 : Up w (w.alloc (.cells #[.int .i64 3, .int .i64 o.sec, .int .i64 o.num, .slice A1 o.dat.length cc1, .slice A2 o.lost.length cc2] 31)) := (Chg.refl _ w).alloc _
  have hbox := heap_alloc_last w (.cells #[.int .i64 3, .int .i64 o.sec, .int .i64 o.num, .slice A1 o.dat.length cc1, .slice A2 o.lost.length cc2] 31)
  have hd0 := h.d.up hu0
  have hr0 := h.r.up hu0
  have HH := Lib.hid h
  have HU0 : Hid (Chg (OwnB p b q sv s1 s2) w (w.alloc (.cells #[.int .i64 3, .int .i64 o.sec, .int .i64 o.num, .slice A1 o.dat.length cc1, .slice A2 o.lost.length cc2] 31))) := Lib.hid (hu0.mono (fun _ _ h => h.elim))
  have hsec := h.ok.2.1
  have hrd := vread _ p b sv x k hd0 h.wf.wf o.sec hsec
  have HD0 := Lib.hid hd0
  have HR0 := Lib.hid hr0
  have HBOX := Lib.hid hbox
  obtain ⟨n, hn⟩ : ∃ n, x.has.length = n := ⟨_, rfl⟩
  have HN := Lib.hid hn
  have hnb := h.wf.wf.num
  have hnum := h.wf.num
  rw [hn] at hnb hnum
  obtain ⟨hsec1, hsec2⟩ := hsec
  unfold readI at hrd
  rw [hn] at hrd
  obtain ⟨L, ar, hF, _, _⟩ := hr0
  rw [hn] at hF
  obtain ⟨g1, c1, rfl⟩ := own_some hF.r1 hnum
  obtain ⟨g2, c2, rfl⟩ := own_some hF.r2 hnum
  have HF := Lib.hid hF
  clear hu0 hbox hd0 h hF
  rw [hn] at hr
  rw [hdn, if_neg (by simp)] at hrd
  rw [if_neg hr] at hrd
  obtain ⟨i, hi⟩ : ∃ i : Nat, o.sec = i := ⟨o.sec.toNat, by omega⟩
  have hnw : (x.ca o.sec).getD (x.has.getD o.sec.toNat []) = nowI x i := by rw [hi]; rfl
  dsimp only at hrd
  rw [hnw] at hrd
  have HRD := Lib.hid hrd
  have HI := Lib.hid hi
  have hnl := nowI_len HH.out.wf.wf i
  clear hrd hi
  go_enter Try.func41, Try.ntmps41
  rw [hkind]
  go_wp2_with fail
  refine HRD.out.mono ?_
  rintro e w1 ⟨v, rfl, hv, hb⟩
  have hi := HI.out
  have hneg : ¬ o.sec < 0 := by omega
  have hov : o.sec < n := by omega
  have hu1 := up_below hb
  have q6 := (HF.out.up hu1).c6
  rw [hdn] at q6
  obtain ⟨A3, c3, rfl⟩ := own_shape hv
  have HQ1 : Hid (w1.drew.cell? ⟨w.heap.size, 1, none⟩ = some (.int .i64 o.sec)) := Lib.hid (cell_of_row w1 w.heap.size 1 _ _ _ (hu1.heap HBOX.out (fun h => h)))
  have HC0 : Hid (w1.drew.cell? ⟨q, 0, none⟩ = some (.slice (some ⟨g1, 0, none⟩) n c1)) := Lib.hid (HF.out.up hu1).c0
  have HV := Lib.hid hv
  have HU1 := Lib.hid hu1
  clear hv hb hu1 HRD hi hr
  go_wp2_with fail
  refine MT.region_mono Up [fun v _ => v = .pointer (some ⟨w.heap.size, 1, none⟩),
      fun v _ => v = .int .i64 o.sec,
      fun v _ => v = .bool false,
      fun v _ => v = .bool false,
      fun v _ => v = .pointer (some ⟨w.heap.size, 1, none⟩),
      fun v _ => v = .int .i64 o.sec,
      fun v _ => v = .pointer (some ⟨q, 0, none⟩),
      fun v _ => v = .pointer (some ⟨q, 0, none⟩),
      fun v _ => v = .pointer (some ⟨q, 0, none⟩),
      fun v _ => v = .slice (some ⟨g1, 0, none⟩) n c1,
      fun v _ => v = .int .i64 (n : Int),
      fun v _ => v = .bool false,
      fun v _ => v = .bool false] (by kernel_rfl) (by kernel_rfl) (Chg.refl _) (fun _ _ _ => Chg.trans) (by simp) ?_ ?_ ?_
  · simp only [List.forall_mem_cons]
    exact ⟨fun _ _ _ _ _ h => h, fun _ _ _ _ _ h => h, fun _ _ _ _ _ h => h, fun _ _ _ _ _ h => h, fun _ _ _ _ _ h => h, fun _ _ _ _ _ h => h, fun _ _ _ _ _ h => h, fun _ _ _ _ _ h => h, fun _ _ _ _ _ h => h, fun _ _ _ _ _ h => h, fun _ _ _ _ _ h => h, fun _ _ _ _ _ h => h, fun _ _ _ _ _ h => h, by simp⟩
  · refine ⟨?_, ?_, ?_, ?_, ?_, ?_, ?_, ?_, ?_, ?_, ?_, ?_, ?_, trivial⟩
    · intro ρ w1 hw h0 hc hg hf hd
      have s5 : ρ (.tmp 5) = .pointer (some ⟨w.heap.size, 0, none⟩) := h0 5 (by kernel_rfl)
      refine ⟨fun _ => ?_, fun h => by cases h⟩
      clear h0 hg hd
      clear hf hc
      refine Gives.value (w' := w1) ?_ ⟨Chg.refl _ _, rfl⟩
      go_simp
    · intro ρ w1 hw h0 hc hg hf hd
      have d0 := hd ⟨0, .data⟩ (by simp) rfl _ _ _ rfl rfl rfl
      refine ⟨fun _ => ?_, fun h => by cases h⟩
      clear h0 hg hd
      clear hc hf
      have c1 := hw.cell HQ1.out (fun h => h)
      refine Gives.value (w' := w1) ?_ ⟨Chg.refl _ _, rfl⟩
      go_simp
    · intro ρ w1 hw h0 hc hg hf hd
      have d1 := hd ⟨1, .data⟩ (by simp) rfl _ _ _ rfl rfl rfl
      refine ⟨fun _ => ?_, fun h => by cases h⟩
      clear h0 hg hd
      clear hf
      refine Gives.value (w' := w1) ?_ ⟨Chg.refl _ _, rfl⟩
      go_simp
    · intro ρ w1 hw h0 hc hg hf hd
      have d2 := hd ⟨2, .data⟩ (by simp) rfl _ _ _ rfl rfl rfl
      refine ⟨fun _ => ?_, fun h => by cases h⟩
      clear h0 hg hd
      exact gives_move rfl ⟨Chg.refl _ _, d2⟩
    · intro ρ w1 hw h0 hc hg hf hd
      have d3 := hd ⟨3, .guard⟩ (by simp) rfl _ _ _ rfl rfl rfl
      have s5 : ρ (.tmp 5) = .pointer (some ⟨w.heap.size, 0, none⟩) := h0 5 (by kernel_rfl)
      refine ⟨fun _ => ?_, fun h => by rw [wantedBy_true rfl rfl rfl d3] at h; cases h⟩
      clear d3
      clear h0 hg hd
      clear hf hc
      refine Gives.value (w' := w1) ?_ ⟨Chg.refl _ _, rfl⟩
      go_simp
    · intro ρ w1 hw h0 hc hg hf hd
      have d4 := hd ⟨4, .data⟩ (by simp) rfl _ _ _ rfl rfl rfl
      have d3 := hd ⟨3, .guard⟩ (by simp) rfl _ _ _ rfl rfl rfl
      refine ⟨fun _ => ?_, fun h => by rw [wantedBy_true rfl rfl rfl d3] at h; cases h⟩
      clear d3
      clear h0 hg hd
      clear hc hf
      have c1 := hw.cell HQ1.out (fun h => h)
      refine Gives.value (w' := w1) ?_ ⟨Chg.refl _ _, rfl⟩
      go_simp
    · intro ρ w1 hw h0 hc hg hf hd
      have d3 := hd ⟨3, .guard⟩ (by simp) rfl _ _ _ rfl rfl rfl
      have s1 : ρ (.tmp 1) = .pointer (some ⟨q, 0, none⟩) := h0 1 (by kernel_rfl)
      refine ⟨fun _ => ?_, fun h => by rw [wantedBy_true rfl rfl rfl d3] at h; cases h⟩
      clear d3
      clear h0 hg hd
      exact gives_move rfl ⟨Chg.refl _ _, s1⟩
    · intro ρ w1 hw h0 hc hg hf hd
      have d6 := hd ⟨6, .data⟩ (by simp) rfl _ _ _ rfl rfl rfl
      have d3 := hd ⟨3, .guard⟩ (by simp) rfl _ _ _ rfl rfl rfl
      refine ⟨fun _ => ?_, fun h => by rw [wantedBy_true rfl rfl rfl d3] at h; cases h⟩
      clear d3
      clear h0 hg hd
      clear hf
      refine Gives.value (w' := w1) ?_ ⟨Chg.refl _ _, rfl⟩
      go_simp
    · intro ρ w1 hw h0 hc hg hf hd
      have d7 := hd ⟨7, .data⟩ (by simp) rfl _ _ _ rfl rfl rfl
      have d3 := hd ⟨3, .guard⟩ (by simp) rfl _ _ _ rfl rfl rfl
      refine ⟨fun _ => ?_, fun h => by rw [wantedBy_true rfl rfl rfl d3] at h; cases h⟩
      clear d3
      clear h0 hg hd
      clear hf
      refine Gives.value (w' := w1) ?_ ⟨Chg.refl _ _, rfl⟩
      go_simp
    · intro ρ w1 hw h0 hc hg hf hd
      have d8 := hd ⟨8, .data⟩ (by simp) rfl _ _ _ rfl rfl rfl
      have d3 := hd ⟨3, .guard⟩ (by simp) rfl _ _ _ rfl rfl rfl
      refine ⟨fun _ => ?_, fun h => by rw [wantedBy_true rfl rfl rfl d3] at h; cases h⟩
      clear d3
      clear h0 hg hd
      clear hc hf
      have c1 := hw.cell HC0.out (fun h => h)
      refine Gives.value (w' := w1) ?_ ⟨Chg.refl _ _, rfl⟩
      go_simp
    · intro ρ w1 hw h0 hc hg hf hd
      have d9 := hd ⟨9, .data⟩ (by simp) rfl _ _ _ rfl rfl rfl
      have d3 := hd ⟨3, .guard⟩ (by simp) rfl _ _ _ rfl rfl rfl
      refine ⟨fun _ => ?_, fun h => by rw [wantedBy_true rfl rfl rfl d3] at h; cases h⟩
      clear d3
      clear h0 hg hd
      clear hf
      refine Gives.value (w' := w1) ?_ ⟨Chg.refl _ _, rfl⟩
      go_simp
    · intro ρ w1 hw h0 hc hg hf hd
      have d5 := hd ⟨5, .data⟩ (by simp) rfl _ _ _ rfl rfl rfl
      have d10 := hd ⟨10, .data⟩ (by simp) rfl _ _ _ rfl rfl rfl
      have d3 := hd ⟨3, .guard⟩ (by simp) rfl _ _ _ rfl rfl rfl
      refine ⟨fun _ => ?_, fun h => by rw [wantedBy_true rfl rfl rfl d3] at h; cases h⟩
      clear d3
      clear h0 hg hd
      clear hf
      refine Gives.value (w' := w1) ?_ ⟨Chg.refl _ _, rfl⟩
      go_simp
    · intro ρ w1 hw h0 hc hg hf hd
      have d3 := hd ⟨3, .data⟩ (by simp) rfl _ _ _ rfl rfl rfl
      have d11 := hd ⟨11, .data⟩ (by simp) rfl _ _ _ rfl rfl rfl
      refine ⟨fun _ => ?_, fun h => by cases h⟩
      clear h0 hg hd
      refine Gives.value (w' := w1) ?_ ⟨Chg.refl _ _, rfl⟩
      go_simp
  · intro vs w2 hw hr
    have h12 := hr 12 _ rfl
    clear hr
    dsimp only [putsL, restL]
    simp only [Act.put, List.setIfInBounds_toArray, List.set_cons_zero, List.set_cons_succ]
    simp only [Nat.zero_add, Nat.reduceAdd]
    rw [h12]
    have hu2 : Up w1 w2 := (Chg.refl (fun _ => False) w1).drew.trans hw
    have HU2 := Lib.hid (HU1.out.trans hu2)
    have HV2 := Lib.hid (own_chg HV.out hu2 (fun _ _ h => h))
    have HSL : Hid (SlB w2.drew (.slice A3 (nowI x i).length c3) (nowI x i)) := Lib.hid (slb_of HV2.out)
    have HR2 : Hid (RefX w2.drew q (.slice (some ⟨g1, 0, none⟩) n c1) (.slice (some ⟨g2, 0, none⟩) n c2) x) := Lib.hid ((HR0.out.up HU2.out).up (Chg.refl _ _).drew)
    have HQ1' : Hid (w2.drew.cell? ⟨w.heap.size, 1, none⟩ = some (.int .i64 (i : Int))) := Lib.hid (by rw [← HI.out]; exact hw.cell HQ1.out (fun h => h))
    obtain ⟨s0, hs0⟩ : ∃ s, strOfNums (nowI x i) = s := ⟨_, rfl⟩
    have HS0 := Lib.hid hs0
    clear hw h12 hu2 HQ1 HC0 hs0 q6 HV HU1
    rename Hid (w2.drew.cell? ⟨w.heap.size, 1, none⟩ = some (.int .i64 (i : Int))) => HQ1
    have hi2 : i < n := by have := HI.out; omega
    clear hneg hov
    go_wp2_with fail
    refine MT.region_mono Up [fun v _ => v = .slice A3 (nowI x i).length c3,
        fun v _ => v = .string s0,
        fun v _ => v = .pointer (some ⟨q, 0, none⟩),
        fun v _ => v = .pointer (some ⟨w.heap.size, 1, none⟩),
        fun v _ => v = .int .i64 (i : Int),
        fun v _ => v = .string s0,
        fun v _ => v = .bool true,
        fun v _ => v = .bool true] (by kernel_rfl) (by kernel_rfl) (Chg.refl _) (fun _ _ _ => Chg.trans) (by simp) ?_ ?_ ?_
    · simp only [List.forall_mem_cons]
      exact ⟨fun _ _ _ _ _ h => h, fun _ _ _ _ _ h => h, fun _ _ _ _ _ h => h, fun _ _ _ _ _ h => h, fun _ _ _ _ _ h => h, fun _ _ _ _ _ h => h, fun _ _ _ _ _ h => h, fun _ _ _ _ _ h => h, by simp⟩
    · refine ⟨?_, ?_, ?_, ?_, ?_, ?_, ?_, ?_, trivial⟩
      · intro ρ w1 hw h0 hc hg hf hd
        have s11 : ρ (.tmp 11) = .slice A3 (nowI x i).length c3 := h0 11 (by kernel_rfl)
        refine ⟨fun _ => ?_, fun h => by cases h⟩
        clear h0 hg hd
        exact gives_move rfl ⟨Chg.refl _ _, s11⟩
      · intro ρ w1 hw h0 hc hg hf hd
        have d0 := hd ⟨0, .data⟩ (by simp) rfl _ _ _ rfl rfl rfl
        refine ⟨fun _ => ?_, fun h => by cases h⟩
        clear h0 hg hd
        rw [← HS0.out]
        exact gives_string rfl (by rw [d0]; exact Src.chg HSL.out hw (fun _ _ _ h => h) (by decide)) ⟨Chg.refl _ _, rfl⟩
      · intro ρ w1 hw h0 hc hg hf hd
        have s1 : ρ (.tmp 1) = .pointer (some ⟨q, 0, none⟩) := h0 1 (by kernel_rfl)
        refine ⟨fun _ => ?_, fun h => by cases h⟩
        clear h0 hg hd
        exact gives_move rfl ⟨Chg.refl _ _, s1⟩
      · intro ρ w1 hw h0 hc hg hf hd
        have s5 : ρ (.tmp 5) = .pointer (some ⟨w.heap.size, 0, none⟩) := h0 5 (by kernel_rfl)
        refine ⟨fun _ => ?_, fun h => by cases h⟩
        clear h0 hg hd
        clear hf hc
        refine Gives.value (w' := w1) ?_ ⟨Chg.refl _ _, rfl⟩
        go_simp
      · intro ρ w1 hw h0 hc hg hf hd
        have d3 := hd ⟨3, .data⟩ (by simp) rfl _ _ _ rfl rfl rfl
        refine ⟨fun _ => ?_, fun h => by cases h⟩
        clear h0 hg hd
        clear hc hf
        have c1 := hw.cell HQ1.out (fun h => h)
        refine Gives.value (w' := w1) ?_ ⟨Chg.refl _ _, rfl⟩
        go_simp
      · intro ρ w1 hw h0 hc hg hf hd
        have d2 := hd ⟨2, .data⟩ (by simp) rfl _ _ _ rfl rfl rfl
        have d4 := hd ⟨4, .data⟩ (by simp) rfl _ _ _ rfl rfl rfl
        refine ⟨fun _ => ?_, fun h => by cases h⟩
        clear h0 hg hd
        rw [← HS0.out]
        refine gives_call rfl hf Try.func44 rfl (by kernel_rfl) (args := #[.pointer (some ⟨q, 0, none⟩), .int .i64 (i : Int)]) (by simp [d2, d4]) ((xnow w1 q _ _ x k (HR2.out.up hw) HH.out.wf i (by rw [HN.out]; omega)).mono ?_)
        rintro e w2 ⟨rfl, rfl⟩
        exact ⟨_, rfl, Chg.refl _ _, rfl⟩
      · intro ρ w1 hw h0 hc hg hf hd
        have d1 := hd ⟨1, .data⟩ (by simp) rfl _ _ _ rfl rfl rfl
        have d5 := hd ⟨5, .data⟩ (by simp) rfl _ _ _ rfl rfl rfl
        refine ⟨fun _ => ?_, fun h => by cases h⟩
        clear h0 hg hd
        clear hf hc
        refine Gives.value (w' := w1) ?_ ⟨Chg.refl _ _, rfl⟩
        go_simp
      · intro ρ w1 hw h0 hc hg hf hd
        have d6 := hd ⟨6, .data⟩ (by simp) rfl _ _ _ rfl rfl rfl
        refine ⟨fun _ => ?_, fun h => by cases h⟩
        clear h0 hg hd
        clear hf hc
        refine Gives.value (w' := w1) ?_ ⟨Chg.refl _ _, rfl⟩
        go_simp
    · intro vs w3 hw hr
      have h7 := hr 7 _ rfl
      clear hr
      dsimp only [putsL, restL]
      simp only [Act.put, List.setIfInBounds_toArray, List.set_cons_zero, List.set_cons_succ]
      simp only [Nat.zero_add, Nat.reduceAdd]
      rw [h7]
      have hu3 : Up w2 w3 := (Chg.refl (fun _ => False) w2).drew.trans hw
      have HU3 := Lib.hid (HU2.out.trans hu3)
      have HROW := Lib.hid (own_chg HV2.out hu3 (fun _ _ h => h))
      obtain ⟨g, hg1, hg3⟩ : ∃ g, w.heap.size ≤ g ∧ ∀ j, (Value.slice A3 (nowI x i).length c3).ownBlock = some j → j = g := by
        by_cases hA : ∃ g, (Value.slice A3 (nowI x i).length c3).ownBlock = some g
        · obtain ⟨g, hg⟩ := hA
          refine ⟨g, ?_, fun j hj => by rw [hg] at hj; injection hj with e; exact e.symm⟩
          rcases HROW.out.2 with ⟨e, _⟩ | ⟨g', cap, cur, e, hb, _⟩
          · rw [e] at hg; simp [Value.ownBlock] at hg
          · rw [e] at hg; simp [Value.ownBlock] at hg; simp at hb; omega
        · exact ⟨w.heap.size, Nat.le_refl _, fun j hj => absurd ⟨j, hj⟩ hA⟩
      have HG := Lib.hid hg3
      clear hw h7 hu3 HQ1 hg3
      go_wp2_with fail
      go_loopw [104] (fun t wr => ∃ (j : Nat) (l : List Int), j ≤ (nowI x i).length ∧ t = .int .i64 j ∧ l.length = (nowI x i).length ∧ wr.ownsRow (w.alloc (.cells #[.int .i64 3, .int .i64 o.sec, .int .i64 o.num, .slice A1 o.dat.length cc1, .slice A2 o.lost.length cc2] 31)).heap.size 5 1 (.slice A3 (nowI x i).length c3) (nowI x i).length (u8s l) ∧ Chg (fun i => i = g) w3 wr) (fun t _ => (nowI x i).length - (intOf t).toNat)
      case atStart => exact ⟨0, (nowI x i), by omega, rfl, rfl, HROW.out, Chg.refl _ _⟩
      case round =>
        rename World => wr
        obtain ⟨j, l, hj, rfl, hll, hrow, hch⟩ := hrel
        by_cases hj2 : (j : Int) < (nowI x i).length
        · obtain ⟨g', hg'⟩ : ∃ g', A3 = some ⟨g', 0, none⟩ := by
            rcases hrow.2 with ⟨_, hz⟩ | ⟨g', cap, cur, he, _⟩
            · omega
            · injection he with e1; exact ⟨g', e1⟩
          have hgg : g' = g := HG.out g' (by rw [hg']; rfl)
          rw [hgg] at hg'
          subst hg'
          have hce := World.ownsRow.cells hrow rfl j _ (u8s_at (show j < l.length by omega))
          rw [addr_add, Nat.zero_add] at hce
          have hfz : wr.frozen? ⟨g, j, none⟩ = false := World.ownsRow.frozenAt hrow j
          have HST : Hid (∀ z : Int, (wr.setCell ⟨g, j, none⟩ (.int .u8 z)).ownsRow (w.alloc (.cells #[.int .i64 3, .int .i64 o.sec, .int .i64 o.num, .slice A1 o.dat.length cc1, .slice A2 o.lost.length cc2] 31)).heap.size 5 1 (.slice (some ⟨g, 0, none⟩) (nowI x i).length c3) (nowI x i).length (u8s (l.set j z))) := Lib.hid (fun z => by
            obtain ⟨hs1, _⟩ := World.ownsRow.stored hrow j (.int .u8 z)
            rw [u8s_set] at hs1
            exact hs1)
          have HCH : Hid (∀ z : Int, Chg (fun i => i = g) w3 (wr.setCell ⟨g, j, none⟩ (.int .u8 z))) := Lib.hid (fun z => hch.setCell ⟨g, j, none⟩ (.inl rfl) _)
          have HLL := Lib.hid hll
          clear hrow hch hgg
          go_wp2_with fail
          exact ⟨⟨j + 1, l.set j _, by omega, by go_num, by rw [List.length_set]; exact HLL.out, HST.out _, HCH.out _⟩, by simp [intOf]; omega⟩
        · obtain ⟨jn, hjn⟩ : ∃ m, j = m := ⟨_, rfl⟩
          have hje : (j : Int) = (nowI x i).length := by omega
          rw [hje]
          have HCH := Lib.hid hch
          clear hrow hch
          go_wp2_with fail
          go_ret
          have hcl : Chg (fun i => w.heap.size ≤ i) w wr := ((((Chg.refl (fun _ => False) w).alloc (.cells #[.int .i64 3, .int .i64 o.sec, .int .i64 o.num, .slice A1 o.dat.length cc1, .slice A2 o.lost.length cc2] 31)).trans HU3.out).mono (fun _ _ h => h.elim)).then HCH.out (fun i hi => .inl (by omega))
          have hul : Up w wr := hcl.below_none (fun i hi h => by omega) |> up_below
          exact ⟨rfl, (HH.out.d.up hul).le (Nat.le_succ k), HH.out.r.up hul, hul.mono (fun _ _ h => h.elim)⟩
theorem W16.step {x : Dk} {k : Nat} (h : W16 x k) (o : OpI) (ho : OpOk o) : W16 (stepI x o) (k + 1) := by
  unfold stepI
  split
  · exact ⟨h.wf.write _ _, by rw [(write_form x _ _).1]; exact h.num, by rw [(write_form x _ _).2]; exact h.size⟩
  split
  · exact ⟨h.wf.flush, by rw [(flush_form x).1]; exact h.num, by rw [(flush_form x).2]; exact h.size⟩
  split
  · exact ⟨(h.wf.arm _ ho.2.2.1).mono (Nat.le_succ k), h.num, h.size⟩
  split
  · exact ⟨(h.wf.crash _).mono (Nat.le_succ k), by rw [(crash_form x _).1]; exact h.num, by rw [(crash_form x _).2]; exact h.size⟩
  split
  · exact ⟨(h.wf.tamper _ _).mono (Nat.le_succ k), by rw [(tamper_form x _ _).1]; exact h.num, by rw [(tamper_form x _ _).2]; exact h.size⟩
  · exact ⟨h.wf.mono (Nat.le_succ k), h.num, h.size⟩
theorem step_any (w : World) (p b q : Nat) (sv s1 s2 : Value) (x : Dk) (k : Nat) (o : OpI) (d1 d2 : Value) (h : StepAt w p b q sv s1 s2 x k o d1 d2) : Calls Try.prog 41 #[.pointer (some ⟨p, 0, none⟩), .pointer (some ⟨q, 0, none⟩), .agg #[.int .i64 o.kind, .int .i64 o.sec, .int .i64 o.num, d1, d2]] w (SPost w p b q sv s1 s2 (stepI x o) (k + 1)) := by
  unfold stepI
  by_cases k1 : o.kind = 1
  · rw [if_pos k1]; exact step1 w p b q sv s1 s2 x k o d1 d2 h k1
  rw [if_neg k1]
  by_cases k2 : o.kind = 2
  · rw [if_pos k2]; exact step2 w p b q sv s1 s2 x k o d1 d2 h k2
  rw [if_neg k2]
  by_cases k4 : o.kind = 4
  · rw [if_pos k4]; exact step4 w p b q sv s1 s2 x k o d1 d2 h k4
  rw [if_neg k4]
  by_cases k5 : o.kind = 5
  · rw [if_pos k5]; exact step5 w p b q sv s1 s2 x k o d1 d2 h k5
  rw [if_neg k5]
  by_cases k6 : o.kind = 6
  · rw [if_pos k6]; exact step6 w p b q sv s1 s2 x k o d1 d2 h k6
  rw [if_neg k6]
  by_cases k3 : o.kind = 3
  · cases hdn : x.down with
    | true => exact step3a w p b q sv s1 s2 x k o d1 d2 h ⟨k3, hdn⟩
    | false =>
      by_cases hr : o.sec < 0 ∨ (x.has.length : Int) ≤ o.sec
      · exact step3b w p b q sv s1 s2 x k o d1 d2 h ⟨k3, hdn, hr⟩
      · exact step3c w p b q sv s1 s2 x k o d1 d2 h ⟨k3, hdn, hr⟩
  exact step0 w p b q sv s1 s2 x k o d1 d2 h ⟨k1, k2, k3, k4, k5, k6⟩
end Go.Proofs.Ytkndnlhlglgmfaa
