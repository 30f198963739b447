/-
  Bend, walked.
-/
import Derived.Test.YtofmblkmfbioiaaN7
namespace Go.Proofs.Ytofmblkmfbioiaa
open Go.RowKit
def DatN (xs : List Int) (v : Value) (W : World) : Prop := ∃ A c, v = .slice A xs.length c ∧ DatB W (.slice A xs.length c) xs
theorem DatN.up {xs : List Int} {v : Value} {W W' : World} (h : DatN xs v W) (hu : Up W W') : DatN xs v W' := by
  obtain ⟨A, c, e, h1⟩ := h
  exact ⟨A, c, e, h1.chg hu (fun _ _ _ h => h.elim)⟩
theorem gives_clone {o : Oper} {ρ : Operand → Value} {w : World} {Φ : Value → World → Prop} {x : Operand} {d : Value} {xs : List Int} (ho : o.op = .call { callee := .value (.func 35), args := #[x], argTypes := #[22] }) (hf : ∀ f, ρ (.func f) = .func (.func f) #[] #[]) (hx : ρ x = d)
    (h : SlB w d xs) (hn : xs.length ≤ 1000000) (k : ∀ v w', Up w w' → DatN xs v w' → Φ v w') : Gives Try.prog o ρ w Φ := by
  refine gives_call ho hf Try.func35 rfl (by kernel_rfl) (args := #[d]) (by simp [hx]) ((clone_any d xs w h (by unfold Room; omega)).mono ?_)
  rintro e w2 ⟨d', rfl, hown, hb, _⟩
  obtain ⟨A, c, rfl⟩ := own_shape hown
  exact ⟨_, rfl, k _ _ (up_below hb) ⟨A, c, rfl, own_base hown (Nat.zero_le _)⟩⟩
set_option maxRecDepth 100000 in
set_option maxHeartbeats 4000000 in
theorem bend_any (w : World) (p : Nat) (lv : Value) (ds : List Value) (ls : List Let) (sent i : Int) (h : NetAt w p lv ds ls sent) (d : Value) (xs : List Int) (hd : SlB w d xs) (hnx : xs.length ≤ 1000000) :
    Calls Try.prog 28 #[.pointer (some ⟨p, 0, none⟩), .int .i64 i, d] w (fun e w' => e = .returned (.int .i64 (if atI ls i then 0 else 11)) ∧
      ((atI ls i = false ∧ Up w w') ∨ (atI ls i = true ∧ ∃ d', NetAt w' p lv (ds.set i.toNat d') (ls.set i.toNat ((ls.getD i.toNat default).1, (ls.getD i.toNat default).2.1, xs)) sent ∧ Chg (fun j => lv.ownBlock = some j) w w'))) := by
  have hat := at_any w p lv ds ls sent i h
  by_cases ha : atI ls i = true
  · obtain ⟨k, rfl, hk⟩ := atI_nat ha
    rw [if_pos ha] at hat ⊢
    rw [Int.toNat_natCast]
    obtain ⟨A, c, rfl, hl1, hl2⟩ := h.shape
    obtain ⟨g, rfl⟩ : ∃ g, A = some ⟨g, 0, none⟩ := by
      rcases h.row.2 with ⟨_, h0⟩ | ⟨g, cap, cur, he, _⟩
      · omega
      · injection he with e1; exact ⟨g, e1⟩
    have HLV : Hid (w.drew.cell? ⟨p, 0, none⟩ = some (.slice (some ⟨g, 0, none⟩) ls.length c)) := Lib.hid h.c0
    have HD : Hid (SlB w.drew d xs) := Lib.hid (Src.chg hd (Chg.refl (fun _ => False) w).drew (fun _ _ _ h => h) (by decide))
    have HAT := Lib.hid hat
    have HN := Lib.hid h
    have HA := Lib.hid ha
    clear hat hd h ha
    go_enter Try.func28, Try.ntmps28
    go_wp2_with fail
    refine HAT.out.mono ?_
    rintro e W1 ⟨rfl, rfl⟩
    rename World => w
    go_wp2_with fail
    refine MT.region_mono Up [fun v _ => v = .pointer (some ⟨p, 0, none⟩),
        fun v _ => v = .pointer (some ⟨p, 0, none⟩),
        fun v _ => v = .pointer (some ⟨p, 0, none⟩),
        fun v _ => v = .slice (some ⟨g, 0, none⟩) ls.length c,
        fun v _ => v = .int .i64 (k : Int),
        fun v _ => v = d,
        DatN xs] (by kernel_rfl) (by kernel_rfl) (Chg.refl _) (fun _ _ _ => Chg.trans) (by simp) ?_ ?_ ?_
    · simp only [List.forall_mem_cons]
      exact ⟨fun _ _ _ _ _ h => h, fun _ _ _ _ _ h => h, fun _ _ _ _ _ h => h, fun _ _ _ _ _ h => h, fun _ _ _ _ _ h => h, fun _ _ _ _ _ h => h, fun _ _ _ _ hu h => DatN.up h hu, by simp⟩
    · refine ⟨?_, ?_, ?_, ?_, ?_, ?_, ?_, trivial⟩
      · intro ρ w1 hw h0 hc hg hf hd
        have s0 : ρ (.tmp 0) = .pointer (some ⟨p, 0, none⟩) := h0 0 (by kernel_rfl)
        refine ⟨fun _ => ?_, fun h => by cases h⟩
        clear h0 hg hd
        exact gives_move rfl ⟨Chg.refl _ _, s0⟩
      · intro ρ w1 hw h0 hc hg hf hd
        have d0 := hd ⟨0, .data⟩ (by simp) rfl _ _ _ rfl rfl rfl
        refine ⟨fun _ => ?_, fun h => by cases h⟩
        clear h0 hg hd
        clear hf
        refine Gives.value (w' := w1) ?_ ⟨Chg.refl _ _, rfl⟩
        go_simp
      · intro ρ w1 hw h0 hc hg hf hd
        have d1 := hd ⟨1, .data⟩ (by simp) rfl _ _ _ rfl rfl rfl
        refine ⟨fun _ => ?_, fun h => by cases h⟩
        clear h0 hg hd
        clear hf
        refine Gives.value (w' := w1) ?_ ⟨Chg.refl _ _, rfl⟩
        go_simp
      · intro ρ w1 hw h0 hc hg hf hd
        have d2 := hd ⟨2, .data⟩ (by simp) rfl _ _ _ rfl rfl rfl
        refine ⟨fun _ => ?_, fun h => by cases h⟩
        clear h0 hg hd
        clear hc hf
        have c0 := hw.cell HLV.out (fun h => h)
        refine Gives.value (w' := w1) ?_ ⟨Chg.refl _ _, rfl⟩
        go_simp
      · intro ρ w1 hw h0 hc hg hf hd
        have s1 : ρ (.tmp 1) = .int .i64 (k : Int) := h0 1 (by kernel_rfl)
        refine ⟨fun _ => ?_, fun h => by cases h⟩
        clear h0 hg hd
        exact gives_move rfl ⟨Chg.refl _ _, s1⟩
      · intro ρ w1 hw h0 hc hg hf hd
        have s2 : ρ (.tmp 2) = d := h0 2 (by kernel_rfl)
        refine ⟨fun _ => ?_, fun h => by cases h⟩
        clear h0 hg hd
        exact gives_move rfl ⟨Chg.refl _ _, s2⟩
      · intro ρ w1 hw h0 hc hg hf hd
        have d5 := hd ⟨5, .data⟩ (by simp) rfl _ _ _ rfl rfl rfl
        refine ⟨fun _ => ?_, fun h => by cases h⟩
        clear h0 hg hd
        exact gives_clone rfl hf d5 (Src.chg HD.out hw (fun _ _ _ h => h) (by decide)) hnx (fun v w2 hu hv => ⟨hu, hv⟩)
    · intro vs w2 hw hr
      have h3 := hr 3 _ rfl
      have h4 := hr 4 _ rfl
      have h6 := hr 6 _ rfl
      clear hr
      dsimp only [putsL, restL]
      simp only [Act.put, List.setIfInBounds_toArray, List.set_cons_zero, List.set_cons_succ]
      obtain ⟨A2, c2, e6, hdat⟩ := h6
      rw [h3, h4, e6]
      have hu2 : Up w w2 := (Chg.refl (fun _ => False) w).drew.trans hw
      have hn2 := HN.out.up hu2
      obtain ⟨r0, r1, r2⟩ := row_cells hn2.row hn2.len k hk
      obtain ⟨B3, d3, hd3⟩ := own_shape (hn2.dat k hk)
      rw [hd3] at r2
      have hg : ∃ cur, w2.heap[g]? = some (.cells cur 29 (0, 0)) := by
        rcases hn2.row.2 with ⟨h0, _⟩ | ⟨g', cap, cur, he, _, hg, _⟩
        · cases h0
        · injection he with e1; injection e1 with e1; injection e1 with e1; subst e1; exact ⟨cur, hg⟩
      obtain ⟨cur, hg⟩ := hg
      have fz := frozen_of_row w2 g (k * 3 + 2) _ _ hg
      have HN2 := Lib.hid hn2
      have HU2 := Lib.hid hu2
      have HDAT := Lib.hid hdat
      have HG := Lib.hid hg
      clear hw h3 h4 e6 hdat hu2 hn2 hd3 hg r0 r1
      go_wp2_with fail
      go_ret
      have hcW : Chg (fun i => i = g) w2 (w2.setCell ⟨g, k * 3 + 2, none⟩ (.slice A2 xs.length c2)) := (Chg.refl (fun i => i = g) w2).setCell ⟨g, k * 3 + 2, none⟩ (.inl rfl) _
      have h5 : ∀ k cur fr, (fun i => i = g) k → w2.heap[k]? ≠ some (.cells cur 5 fr) := fun k cur fr hk hg => by
        have hk : k = g := hk
        subst hk
        rw [HG.out] at hg; cases hg
      have hgp : ¬ p = g := fun e => by
        have h1 := HN2.out.obj
        rw [e, HG.out] at h1; cases h1
      refine ⟨rfl, .inr ⟨HA.out, .slice A2 xs.length c2, ⟨hcW.heap HN2.out.obj hgp, by rw [List.length_set, List.length_set]; exact HN2.out.len, ?_, fun j hj => ?_⟩, ?_⟩⟩
      · rw [List.length_set]
        exact row_set HN2.out.row rfl HN2.out.len k hk xs _
      · rw [List.length_set] at hj
        by_cases hjk : k = j
        · subst hjk
          have e1 : (ds.set k (Value.slice A2 xs.length c2)).getD k undef = .slice A2 xs.length c2 := by simp [List.getD_eq_getElem?_getD, show k < ds.length by rw [HN2.out.len]; exact hk]
          have e2 : (ls.set k ((ls.getD k default).1, (ls.getD k default).2.1, xs)).getD k default = ((ls.getD k default).1, (ls.getD k default).2.1, xs) := by simp [List.getD_eq_getElem?_getD, hk]
          rw [e1, e2]
          exact HDAT.out.chg hcW h5
        · have e1 : (ds.set k (Value.slice A2 xs.length c2)).getD j undef = ds.getD j undef := by simp [List.getD_eq_getElem?_getD, List.getElem?_set_ne hjk]
          have e2 : (ls.set k ((ls.getD k default).1, (ls.getD k default).2.1, xs)).getD j default = ls.getD j default := by simp [List.getD_eq_getElem?_getD, List.getElem?_set_ne hjk]
          rw [e1, e2]
          exact (HN2.out.dat j hj).chg hcW h5
      · exact (HU2.out.mono (fun _ _ h => h.elim)).then hcW (fun i hi => .inl (by have hi : i = g := hi; subst hi; rfl))
  · have ha' : atI ls i = false := by simpa using ha
    rw [if_neg ha] at hat ⊢
    have HAT := Lib.hid hat
    have HA := Lib.hid ha'
    have hsh := hd.shape
    obtain ⟨A, c, rfl, _, _⟩ := hsh
    clear hat h hd ha ha'
    go_enter Try.func28, Try.ntmps28
    go_wp2_with fail
    refine HAT.out.mono ?_
    rintro e W1 ⟨rfl, rfl⟩
    go_wp2_with fail
    go_ret
    exact ⟨rfl, .inl ⟨HA.out, Chg.refl _ _⟩⟩
end Go.Proofs.Ytofmblkmfbioiaa
