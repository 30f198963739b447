/-
  same, walked.
-/
import Derived.Test.YtofmblkmfbioiaaN14
namespace Go.Proofs.Ytofmblkmfbioiaa
open Go.RowKit
theorem neq49 (f t : Int) (st : ByteArray) (W : World) : (binOp .neq 49 (.agg #[.int .i64 f, .int .i64 t, .string st]) (.agg #[.int .i64 f, .int .i64 t, .string st])).run Try.prog W = .ok (.bool false) W := by
  go_simp
theorem guard49 (op : BinOp) (x y : Operand) (f t : Int) (st : ByteArray) (W : World) : (eqGuard op 49 x y (.agg #[.int .i64 f, .int .i64 t, .string st]) (.agg #[.int .i64 f, .int .i64 t, .string st])).run Try.prog W = .ok () W :=
  run_eqGuard_agg W op 49 x y _ _ (by kernel_rfl)
set_option maxRecDepth 100000 in
set_option maxHeartbeats 4000000 in
theorem same_any (w : World) (p : Nat) (lv : Value) (ds : List Value) (ls : List Let) (sent : Int) (h : NetAt w p lv ds ls sent) (hn : ls.length ≤ 1024) (hx : ∀ j, j < ls.length → (ls.getD j default).2.2.length ≤ 1000000) (b0 : Nat) (v : Value) (hX : XAt w b0 v ls) :
    Calls Try.prog 17 #[.pointer (some ⟨p, 0, none⟩), v] w (fun e w' => e = .returned (.bool true) ∧ Below w.heap.size w w') := by
  obtain ⟨Ax, cx, rfl⟩ := own_shape hX
  have HALL := Lib.hid (all_any w p lv ds ls sent h hn hx)
  have HN := Lib.hid h
  have HX := Lib.hid hX
  clear h hX hx
  go_enter Try.func17, Try.ntmps17
  go_wp2_with fail
  refine HALL.out.mono ?_
  rintro e W1 ⟨v5, ds5, rfl, hcop, hb1⟩
  obtain ⟨Aa, ca, rfl⟩ := own_shape hcop.2.1
  have hu1 := up_below hb1
  have HLEN := Lib.hid (len_any W1 p lv ds ls sent (HN.out.up hu1))
  have HCOP := Lib.hid hcop
  have HX1 := Lib.hid (show XAt W1 b0 _ ls from own_up HX.out hu1)
  have HU1 := Lib.hid hu1
  clear hcop hb1 hu1 HALL HN HX
  go_wp2_with fail
  refine HLEN.out.mono ?_
  rintro e W1' ⟨rfl, rfl⟩
  rename World => W1
  go_wp2_with fail
  go_loopw [23] (fun i wr => ∃ (k : Nat), k ≤ ls.length ∧ i = .int .i64 k ∧ Up W1 wr) (fun i _ => ls.length - (intOf i).toNat)
  case atStart => exact ⟨0, by omega, rfl, Chg.refl _ _⟩
  case round =>
    rename World => wo
    obtain ⟨k, hk, rfl, hu⟩ := hrel
    by_cases hk2 : (k : Int) < ls.length
    · have hkk : k < ls.length := by omega
      have hud : Up W1 wo.drew := hu.trans (Chg.refl _ _).drew
      obtain ⟨ga, rfl⟩ : ∃ g, Aa = some ⟨g, 0, none⟩ := by
        rcases HCOP.out.2.1.2 with ⟨_, hz⟩ | ⟨g, cap, cur, he, _⟩
        · omega
        · injection he with e1; exact ⟨g, e1⟩
      obtain ⟨gx, rfl⟩ : ∃ g, Ax = some ⟨g, 0, none⟩ := by
        rcases HX1.out.2 with ⟨_, hz⟩ | ⟨g, cap, cur, he, _⟩
        · omega
        · injection he with e1; exact ⟨g, e1⟩
      obtain ⟨r0, r1, r2⟩ := row_cells HCOP.out.2.1 HCOP.out.1 k hkk
      obtain ⟨s0, s1, s2⟩ := HX1.out.cells k hkk
      have hdat := HCOP.out.2.2 k hkk
      obtain ⟨x, hxe⟩ : ∃ x, ls.getD k default = x := ⟨_, rfl⟩
      rw [hxe] at r0 r1 s0 s1 s2 hdat
      obtain ⟨f, t, xs⟩ := x
      dsimp only at r0 r1 s0 s1 s2 hdat
      obtain ⟨A3, c3, hd3⟩ := own_shape hdat
      rw [hd3] at r2 hdat
      obtain ⟨st, hst⟩ : ∃ s, strOfNums xs = s := ⟨_, rfl⟩
      rw [hst] at s2
      have L0 := Lib.hid (hud.cell r0 (fun h => h))
      have L1 := Lib.hid (hud.cell r1 (fun h => h))
      have L2 := Lib.hid (hud.cell r2 (fun h => h))
      have M0 := Lib.hid (hud.cell s0 (fun h => h))
      have M1 := Lib.hid (hud.cell s1 (fun h => h))
      have M2 := Lib.hid (hud.cell s2 (fun h => h))
      have HD : Hid (SlB wo.drew (.slice A3 xs.length c3) xs) := Lib.hid (DatB.slb (own_base (own_up hdat hud) (Nat.zero_le _)))
      have HST := Lib.hid hst
      have HU := Lib.hid hu
      clear hud r0 r1 r2 s0 s1 s2 hdat hxe hd3 hst hu
      go_wp2_with fail
      refine MT.region_mono Up [fun v _ => v = .slice (some ⟨ga, 0, none⟩) ls.length ca,
          fun v _ => v = .int .i64 (k : Int),
          fun v _ => v = .pointer (some ⟨ga, k * 3, none⟩),
          fun v _ => v = .agg #[.int .i64 f, .int .i64 t, .slice A3 xs.length c3],
          fun v _ => v = .agg #[.int .i64 f, .int .i64 t, .string st],
          fun v _ => v = .slice (some ⟨gx, 0, none⟩) ls.length cx,
          fun v _ => v = .int .i64 (k : Int),
          fun v _ => v = .pointer (some ⟨gx, k * 3, none⟩),
          fun v _ => v = .agg #[.int .i64 f, .int .i64 t, .string st],
          fun v _ => v = .bool false] (by kernel_rfl) (by kernel_rfl) (Chg.refl _) (fun _ _ _ => Chg.trans) (by simp) ?_ ?_ ?_
      · simp only [List.forall_mem_cons]
        exact ⟨fun _ _ _ _ _ h => h, fun _ _ _ _ _ h => h, fun _ _ _ _ _ h => h, fun _ _ _ _ _ h => h, fun _ _ _ _ _ h => h, fun _ _ _ _ _ h => h, fun _ _ _ _ _ h => h, fun _ _ _ _ _ h => h, fun _ _ _ _ _ h => h, fun _ _ _ _ _ h => h, by simp⟩
      · refine ⟨?_, ?_, ?_, ?_, ?_, ?_, ?_, ?_, ?_, ?_, trivial⟩
        · intro ρ w1 hw h0 hc hg hf hd
          have s5 : ρ (.tmp 5) = .slice (some ⟨ga, 0, none⟩) ls.length ca := h0 5 (by kernel_rfl)
          refine ⟨fun _ => ?_, fun h => by cases h⟩
          clear h0 hg hd
          exact gives_move rfl ⟨Chg.refl _ _, s5⟩
        · intro ρ w1 hw h0 hc hg hf hd
          have s6 : ρ (.tmp 6) = .int .i64 (k : Int) := h0 6 (by kernel_rfl)
          refine ⟨fun _ => ?_, fun h => by cases h⟩
          clear h0 hg hd
          exact gives_move rfl ⟨Chg.refl _ _, s6⟩
        · intro ρ w1 hw h0 hc hg hf hd
          have d0 := hd ⟨0, .data⟩ (by simp) rfl _ _ _ rfl rfl rfl
          have d1 := hd ⟨1, .data⟩ (by simp) rfl _ _ _ rfl rfl rfl
          refine ⟨fun _ => ?_, fun h => by cases h⟩
          clear h0 hg hd
          clear hf
          refine Gives.value (w' := w1) ?_ ⟨Chg.refl _ _, rfl⟩
          go_simp
        · intro ρ w1 hw h0 hc hg hf hd
          have d2 := hd ⟨2, .data⟩ (by simp) rfl _ _ _ rfl rfl rfl
          refine ⟨fun _ => ?_, fun h => by cases h⟩
          clear h0 hg hd
          clear hc hf
          have l0 := hw.cell L0.out (fun h => h)
          have l1 := hw.cell L1.out (fun h => h)
          have l2 := hw.cell L2.out (fun h => h)
          refine Gives.value (w' := w1) ?_ ⟨Chg.refl _ _, rfl⟩
          go_simp
        · intro ρ w1 hw h0 hc hg hf hd
          have d3 := hd ⟨3, .data⟩ (by simp) rfl _ _ _ rfl rfl rfl
          refine ⟨fun _ => ?_, fun h => by cases h⟩
          clear h0 hg hd
          have hcl := ref_any w1 f t (.slice A3 xs.length c3) xs (Src.chg HD.out hw (fun _ _ _ h => h) (by decide))
          unfold refV at hcl
          dsimp only at hcl
          rw [HST.out] at hcl
          refine gives_call rfl hf Try.func21 rfl (by kernel_rfl) (args := #[.agg #[.int .i64 f, .int .i64 t, .slice A3 xs.length c3]]) (by simp [hc, d3]) (hcl.mono ?_)
          rintro e w2 ⟨rfl, hb⟩
          exact ⟨_, rfl, up_below hb, rfl⟩
        · intro ρ w1 hw h0 hc hg hf hd
          have s1 : ρ (.tmp 1) = .slice (some ⟨gx, 0, none⟩) ls.length cx := h0 1 (by kernel_rfl)
          refine ⟨fun _ => ?_, fun h => by cases h⟩
          clear h0 hg hd
          exact gives_move rfl ⟨Chg.refl _ _, s1⟩
        · intro ρ w1 hw h0 hc hg hf hd
          have s6 : ρ (.tmp 6) = .int .i64 (k : Int) := h0 6 (by kernel_rfl)
          refine ⟨fun _ => ?_, fun h => by cases h⟩
          clear h0 hg hd
          exact gives_move rfl ⟨Chg.refl _ _, s6⟩
        · intro ρ w1 hw h0 hc hg hf hd
          have d5 := hd ⟨5, .data⟩ (by simp) rfl _ _ _ rfl rfl rfl
          have d6 := hd ⟨6, .data⟩ (by simp) rfl _ _ _ rfl rfl rfl
          refine ⟨fun _ => ?_, fun h => by cases h⟩
          clear h0 hg hd
          clear hf
          refine Gives.value (w' := w1) ?_ ⟨Chg.refl _ _, rfl⟩
          go_simp
        · intro ρ w1 hw h0 hc hg hf hd
          have d7 := hd ⟨7, .data⟩ (by simp) rfl _ _ _ rfl rfl rfl
          refine ⟨fun _ => ?_, fun h => by cases h⟩
          clear h0 hg hd
          clear hc hf
          have l0 := hw.cell M0.out (fun h => h)
          have l1 := hw.cell M1.out (fun h => h)
          have l2 := hw.cell M2.out (fun h => h)
          refine Gives.value (w' := w1) ?_ ⟨Chg.refl _ _, rfl⟩
          go_simp
        · intro ρ w1 hw h0 hc hg hf hd
          have d4 := hd ⟨4, .data⟩ (by simp) rfl _ _ _ rfl rfl rfl
          have d8 := hd ⟨8, .data⟩ (by simp) rfl _ _ _ rfl rfl rfl
          refine ⟨fun _ => ?_, fun h => by cases h⟩
          clear h0 hg hd
          clear hf
          have q1 := neq49 f t st w1
          have q2 := guard49 .neq (.tmp 30) (.tmp 34) f t st w1
          refine Gives.value (v := .bool false) (w' := w1) ?_ ⟨Chg.refl _ _, rfl⟩
          unfold execOp
          simp [d4, d8, q1, q2]
      · intro vs w7 hw hr
        have h9 := hr 9 _ rfl
        clear hr
        dsimp only [putsL, restL]
        simp only [Act.put, List.setIfInBounds_toArray, List.set_cons_zero, List.set_cons_succ]
        rw [h9]
        have HU7 := Lib.hid (HU.out.trans ((Chg.refl (fun _ => False) wo).drew.trans hw))
        clear hw h9
        go_wp2_with fail
        go_roundw
        case rel => exact ⟨k + 1, by omega, by go_num, HU7.out⟩
        case measure => simp [intOf]; omega
    · obtain rfl : k = ls.length := by omega
      have HU := Lib.hid (HU1.out.trans hu)
      clear hu
      go_wp2_with fail
      go_ret
      exact ⟨rfl, HU.out.below_none (fun _ _ h => h)⟩
end Go.Proofs.Ytofmblkmfbioiaa
