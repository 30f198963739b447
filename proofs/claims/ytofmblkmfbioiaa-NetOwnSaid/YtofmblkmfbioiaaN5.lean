/-
  A letter is added to a net: add, walked.
-/
import Derived.Test.YtofmblkmfbioiaaN4
import Derived.Test.YtofmblkmfbioiaaM1
namespace Go.Proofs.Ytofmblkmfbioiaa
open Go.RowKit
theorem own_ge {W : World} {base n s : Nat} {e : TypeId} {v : Value} {xs : List Value} (h : W.ownsRow base e s v n xs) (g : Nat) (hg : v.ownBlock = some g) : base ≤ g := by
  rcases h.2 with ⟨rfl, _⟩ | ⟨g', cap, cur, rfl, hb, _⟩
  · simp [Value.ownBlock] at hg
  · obtain rfl : g' = g := by simpa [Value.ownBlock] using hg
    exact hb
set_option maxRecDepth 100000 in
set_option maxHeartbeats 4000000 in
theorem add_any (w : World) (p : Nat) (lv : Value) (ds : List Value) (ls : List Let) (sent : Int) (h : NetAt w p lv ds ls sent) (f t : Int) (d : Value) (xs : List Int) (hd : SlB w d xs) (hnx : xs.length ≤ 1000000) :
    Calls Try.prog 25 #[.pointer (some ⟨p, 0, none⟩), .agg #[.int .i64 f, .int .i64 t, d]] w (fun e w' =>
      (1024 ≤ ls.length ∧ e = .returned (.int .i64 12) ∧ Up w w') ∨
      (ls.length < 1024 ∧ e = .returned (.int .i64 0) ∧ ∃ lv' d', NetAt w' p lv' (ds ++ [d']) (ls ++ [(f, t, xs)]) sent ∧ Chg (fun i => i = p ∨ lv.ownBlock = some i) w w' ∧ (lv'.ownBlock = lv.ownBlock ∨ ∃ g, lv'.ownBlock = some g ∧ w.heap.size ≤ g) ∧ ∀ g, d'.ownBlock = some g → w.heap.size ≤ g)) := by
  obtain ⟨A, c, rfl, _, _⟩ := hd.shape
  obtain ⟨W0, hW0⟩ : ∃ W0, W0 = w.alloc (.cells #[.int .i64 f, .int .i64 t, .slice A xs.length c] 29) := ⟨_, rfl⟩
  have hu0 : Up w W0 := by rw [hW0]; exact (Chg.refl _ w).alloc _
  have hbx : W0.heap[w.heap.size]? = some (.cells #[.int .i64 f, .int .i64 t, .slice A xs.length c] 29 (0, 0)) := by rw [hW0]; exact heap_alloc_last _ _
  have h0 := h.up hu0
  obtain ⟨A0, c0, rfl, hl1, hl2⟩ := h.shape
  have lc := h0.c0
  have lcw : (w.alloc (.cells #[.int .i64 f, .int .i64 t, .slice A xs.length c] 29)).cell? ⟨p, 0, none⟩ = some (.slice A0 ls.length c0) := by rw [← hW0]; exact lc
  have hpw : p < w.heap.size := (Array.getElem?_eq_some_iff.1 h.obj).1
  have HN := Lib.hid h
  have HN0 := Lib.hid h0
  have HLV : Hid (W0.drew.cell? ⟨p, 0, none⟩ = some (.slice A0 ls.length c0)) := Lib.hid lc
  have HBX : Hid (W0.drew.heap[w.heap.size]? = some (.cells #[.int .i64 f, .int .i64 t, .slice A xs.length c] 29 (0, 0))) := Lib.hid hbx
  have HD : Hid (SlB W0.drew (.slice A xs.length c) xs) := Lib.hid (Src.chg hd (hu0.trans (Chg.refl _ _).drew) (fun _ _ _ h => h) (by decide))
  have HU0 := Lib.hid hu0
  have HW := Lib.hid hW0
  clear hd h h0 lc hu0 hbx hW0
  go_enter Try.func25, Try.ntmps25
  by_cases hfull : (1024 : Int) ≤ ls.length
  · go_wp2
    go_ret
    rw [← HW.out]
    exact .inl ⟨by omega, rfl, HU0.out⟩
  · go_wp2_with fail
    rw [← HW.out]
    clear lcw HW
    refine MT.region_monoF Up [fun v _ => v = .pointer (some ⟨p, 0, none⟩),
        fun v _ => v = .pointer (some ⟨p, 0, none⟩),
        fun v _ => v = .pointer (some ⟨p, 0, none⟩),
        fun v _ => v = .pointer (some ⟨p, 0, none⟩),
        fun v _ => v = .slice A0 ls.length c0,
        fun v _ => v = .agg #[.int .i64 f, .int .i64 t, .slice A xs.length c],
        LetV w.heap.size f t xs,
        OneL w.heap.size f t xs] (by kernel_rfl) (by kernel_rfl) (by simp) _ (.pointer (some ⟨p, 0, none⟩)) rfl (by kernel_rfl) (by kernel_rfl) (fun _ _ _ h => h) (.inl ⟨rfl, fun _ => by simp [execOp, Act.eval]⟩) (fun r hr => by injection hr with hr; subst hr; rfl) (Chg.refl _) (fun _ _ _ => Chg.trans) (by simp) ?_ ?_ ?_
    · simp only [List.forall_mem_cons]
      exact ⟨fun _ _ _ _ _ h => h, fun _ _ _ _ _ h => h, fun _ _ _ _ _ h => h, fun _ _ _ _ _ h => h, fun _ _ _ _ _ h => h, fun _ _ _ _ _ h => h, fun _ _ _ _ hu h => LetV.up h hu, fun _ _ _ _ hu h => OneL.up h hu, by simp⟩
    · refine ⟨?_, ?_, ?_, ?_, ?_, ?_, ?_, ?_, trivial⟩
      · intro ρ w1 hw h0 hc hg hf hd
        have s0 : ρ (.tmp 0) = .pointer (some ⟨p, 0, none⟩) := h0 0 (by kernel_rfl)
        refine ⟨fun _ => ?_, fun h => by cases h⟩
        clear h0 hg hd
        exact gives_move rfl ⟨Chg.refl _ _, s0⟩
      · intro ρ w1 hw h0 hc hg hf hd
        have s0 : ρ (.tmp 0) = .pointer (some ⟨p, 0, none⟩) := h0 0 (by kernel_rfl)
        refine ⟨fun _ => ?_, fun h => by cases h⟩
        clear h0 hg hd
        exact gives_move rfl ⟨Chg.refl _ _, s0⟩
      · intro ρ w1 hw h0 hc hg hf hd
        have d1 := hd ⟨1, .data⟩ (by simp) rfl _ _ _ rfl rfl rfl
        refine ⟨fun _ => ?_, fun h => by cases h⟩
        clear h0 hg hd
        clear hf
        refine Gives.value (w' := w1) ?_ ⟨Chg.refl _ _, rfl⟩
        go_simp
      · intro ρ w1 hw h0 hc hg hf hd
        have d2 := hd ⟨2, .data⟩ (by simp) rfl _ _ _ rfl rfl rfl
        refine ⟨fun _ => ?_, fun h => by cases h⟩
        clear h0 hg hd
        clear hf
        refine Gives.value (w' := w1) ?_ ⟨Chg.refl _ _, rfl⟩
        go_simp
      · intro ρ w1 hw h0 hc hg hf hd
        have d3 := hd ⟨3, .data⟩ (by simp) rfl _ _ _ rfl rfl rfl
        refine ⟨fun _ => ?_, fun h => by cases h⟩
        clear h0 hg hd
        clear hc hf
        have c0 := hw.cell HLV.out (fun h => h)
        refine Gives.value (w' := w1) ?_ ⟨Chg.refl _ _, rfl⟩
        go_simp
      · intro ρ w1 hw h0 hc hg hf hd
        have s3 : ρ (.tmp 3) = .pointer (some ⟨w.heap.size, 0, none⟩) := h0 3 (by kernel_rfl)
        refine ⟨fun _ => ?_, fun h => by cases h⟩
        clear h0 hg hd
        clear hc hf
        exact gv_load_row rfl s3 (hw.heap HBX.out (fun h => h)) Try.underlying29 rfl (by kernel_rfl) ⟨Chg.refl _ _, rfl⟩
      · intro ρ w1 hw h0 hc hg hf hd
        have d5 := hd ⟨5, .data⟩ (by simp) rfl _ _ _ rfl rfl rfl
        refine ⟨fun _ => ?_, fun h => by cases h⟩
        clear h0 hg hd
        exact gives_copied rfl hf d5 (Src.chg HD.out hw (fun _ _ _ h => h) (by decide)) hnx (Nat.le_trans HU0.out.size hw.size) (fun v w2 hu hv => ⟨hu, hv⟩)
      · intro ρ w1 hw h0 hc hg hf hd
        have d6 := hd ⟨6, .data⟩ (by simp) rfl _ _ _ rfl rfl rfl
        refine ⟨fun _ => ?_, fun h => by cases h⟩
        clear h0 hg hd
        exact gives_onel rfl d6 (fun v w2 hu hv => ⟨hu, hv⟩)
    · intro vs w2 hw hr
      have h0 := hr 0 _ rfl
      have h4 := hr 4 _ rfl
      have h7 := hr 7 _ rfl
      clear hr
      dsimp only [putsL, restL]
      simp only [Act.put, List.setIfInBounds_toArray, List.set_cons_zero, List.set_cons_succ]
      obtain ⟨g, A2, c2, e7, hg, hdat0⟩ := h7
      have hdat : DatB w2 (.slice A2 xs.length c2) xs := own_base hdat0 (Nat.zero_le _)
      have HFR := Lib.hid (own_ge hdat0)
      clear hdat0
      rw [h0, h4, e7]
      have hu2 : Up W0 w2 := (Chg.refl (fun _ => False) W0).drew.trans hw
      have hn2 := HN0.out.up hu2
      obtain ⟨B, c3, w3, hrun, ho3, hc3, hb3⟩ := push_let w2 0 (Nat.zero_le _) _ ls ds hn2.len hn2.row f t xs g A2 c2 hg (by omega)
      have hne : ¬ (Value.slice A0 ls.length c0).ownBlock = some p := fun hk => by
        have h1 := hn2.row
        rcases h1.2 with ⟨h2, _⟩ | ⟨g', cap', cur', h2, _, hg', _⟩
        · rw [h2] at hk; simp [Value.ownBlock] at hk
        · rw [h2] at hk
          obtain rfl : g' = p := by simpa [Value.ownBlock] using hk
          have h3 := hn2.obj
          rw [hg'] at h3
          cases h3
      have hobj := hc3.heap hn2.obj hne
      have hcp := cell_of_row w3 p 0 _ _ _ hobj
      have hfz := frozen_of_row w3 p 0 _ _ hobj
      have HRUN := Lib.hid hrun
      have HO3 := Lib.hid ho3
      have HOBJ := Lib.hid hobj
      have HC3 := Lib.hid hc3
      have HB3 := Lib.hid hb3
      have HN2 := Lib.hid hn2
      have HU2 := Lib.hid (HU0.out.trans hu2)
      have HDAT := Lib.hid hdat
      clear hw h0 h4 e7 hg hu2 hn2 hrun ho3 hc3 hb3 hne hobj hdat
      go_wp2_with (at_builtin; refine wpList_run_append rfl _ _ 41 rfl _ _ rfl rfl 41 rfl HRUN.out ?_)
      go_ret
      have hcW : Chg (fun i => i = p) w3 (w3.setCell ⟨p, 0, none⟩ (.slice B (ls.length + 1) c3)) := (Chg.refl (fun i => i = p) w3).setCell ⟨p, 0, none⟩ (.inl rfl) _
      have hpne : ∀ k, (Value.slice B (ls.length + 1) c3).ownBlock = some k → ¬ k = p := fun k hk hkp => by
        subst hkp
        rcases HO3.out.2 with ⟨h2, _⟩ | ⟨g', cap', cur', h2, _, hg', _⟩
        · rw [h2] at hk; simp [Value.ownBlock] at hk
        · rw [h2] at hk
          obtain rfl : g' = k := by simpa [Value.ownBlock] using hk
          rw [HOBJ.out] at hg'
          cases hg'
      have h5 : ∀ k cur fr, (fun i => i = p) k → w3.heap[k]? ≠ some (.cells cur 5 fr) := fun k cur fr hk hg => by
        have hk : k = p := hk
        subst hk
        rw [HOBJ.out] at hg; cases hg
      refine .inr ⟨by omega, rfl, .slice B (ls.length + 1) c3, .slice A2 xs.length c2, ⟨heap_setCell_same w3 p 0 _ _ _ HOBJ.out, by simp [HN2.out.len], ?_, fun j hj => ?_⟩, ?_, ?_, HFR.out⟩
      · rw [List.length_append]
        exact own_chg HO3.out hcW hpne
      · rw [List.length_append] at hj
        simp only [List.length_cons, List.length_nil] at hj
        by_cases hjk : j < ls.length
        · have e1 : (ds ++ [Value.slice A2 xs.length c2]).getD j undef = ds.getD j undef := by simp [List.getD_eq_getElem?_getD, List.getElem?_append_left (show j < ds.length by have := HN2.out.len; omega)]
          have e2 : (ls ++ [(f, t, xs)]).getD j default = ls.getD j default := by simp [List.getD_eq_getElem?_getD, List.getElem?_append_left hjk]
          rw [e1, e2]
          exact ((HN2.out.dat j hjk).chg HC3.out (row_not5 HN2.out.row)).chg hcW h5
        · obtain rfl : j = ls.length := by omega
          have e1 : (ds ++ [Value.slice A2 xs.length c2]).getD ls.length undef = .slice A2 xs.length c2 := by rw [← HN2.out.len]; simp [List.getD_eq_getElem?_getD]
          have e2 : (ls ++ [(f, t, xs)]).getD ls.length default = (f, t, xs) := by simp [List.getD_eq_getElem?_getD]
          rw [e1, e2]
          exact (HDAT.out.chg HC3.out (row_not5 HN2.out.row)).chg hcW h5
      · exact ((HU2.out.mono (fun _ _ h => h.elim)).then HC3.out (fun i hi => .inl (.inr hi))).setCell ⟨p, 0, none⟩ (.inl (.inl rfl)) _
      · rcases HB3.out with hb | ⟨g, hb, hge⟩
        · exact .inl hb
        · exact .inr ⟨g, hb, Nat.le_trans HU2.out.size hge⟩
end Go.Proofs.Ytofmblkmfbioiaa
