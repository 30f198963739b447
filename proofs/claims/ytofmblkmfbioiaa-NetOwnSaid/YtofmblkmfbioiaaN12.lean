/-
  Copy, walked.
-/
import Derived.Test.YtofmblkmfbioiaaN11
namespace Go.Proofs.Ytofmblkmfbioiaa
open Go.RowKit
theorem gives_assign {P : Program} {o : Oper} {ρ : Operand → Value} {w : World} {Φ : Value → World → Prop} {x : Operand} (ho : o.op = .assign x) (k : Φ (ρ x) w) : Gives P o ρ w Φ :=
  Gives.value (v := ρ x) (w' := w) (by simp [execOp, ho]) k
theorem CopR.up {W W' : World} {base : Nat} {v : Value} {ds : List Value} {ls : List Let} (h : CopR W base v ds ls) (hu : Up W W') : CopR W' base v ds ls :=
  ⟨h.1, own_up h.2.1 hu, fun j hj => own_up (h.2.2 j hj) hu⟩
theorem CopR.net {W : World} {base q : Nat} {v : Value} {ds : List Value} {ls : List Let} {sent : Int} (h : CopR W base v ds ls) (hq : W.heap[q]? = some (.cells #[v, .int .i64 sent] 57 (0, 0))) : NetAt W q v ds ls sent :=
  ⟨hq, h.1, own_base h.2.1 (Nat.zero_le _), fun j hj => own_base (h.2.2 j hj) (Nat.zero_le _)⟩
def CopA (base : Nat) (ls : List Let) (v : Value) (W : World) : Prop := ∃ A c ds, v = .slice A ls.length c ∧ CopR W base (.slice A ls.length c) ds ls
theorem CopA.up {base : Nat} {ls : List Let} {v : Value} {W W' : World} (h : CopA base ls v W) (hu : Up W W') : CopA base ls v W' := by
  obtain ⟨A, c, ds, e, h1⟩ := h
  exact ⟨A, c, ds, e, h1.up hu⟩
def CopB (base : Nat) (ls : List Let) (sent : Int) (v : Value) (W : World) : Prop := ∃ A c ds, v = .agg #[.slice A ls.length c, .int .i64 sent] ∧ CopR W base (.slice A ls.length c) ds ls
theorem CopB.up {base : Nat} {ls : List Let} {sent : Int} {v : Value} {W W' : World} (h : CopB base ls sent v W) (hu : Up W W') : CopB base ls sent v W' := by
  obtain ⟨A, c, ds, e, h1⟩ := h
  exact ⟨A, c, ds, e, h1.up hu⟩
def CopC (base : Nat) (ls : List Let) (sent : Int) (v : Value) (W : World) : Prop := ∃ q A c ds, v = .pointer (some ⟨q, 0, none⟩) ∧ base ≤ q ∧ W.heap[q]? = some (.cells #[.slice A ls.length c, .int .i64 sent] 57 (0, 0)) ∧ CopR W base (.slice A ls.length c) ds ls
theorem CopC.up {base : Nat} {ls : List Let} {sent : Int} {v : Value} {W W' : World} (h : CopC base ls sent v W) (hu : Up W W') : CopC base ls sent v W' := by
  obtain ⟨q, A, c, ds, e, h0, h1, h2⟩ := h
  exact ⟨q, A, c, ds, e, h0, hu.heap h1 (fun h => h), h2.up hu⟩
set_option maxRecDepth 100000 in
set_option maxHeartbeats 4000000 in
theorem copy_any (w : World) (p : Nat) (lv : Value) (ds : List Value) (ls : List Let) (sent : Int) (h : NetAt w p lv ds ls sent) (hn : ls.length ≤ 1024) (hx : ∀ j, j < ls.length → (ls.getD j default).2.2.length ≤ 1000000) :
    Calls Try.prog 16 #[.pointer (some ⟨p, 0, none⟩)] w (fun e w' => ∃ q v ds', e = .returned (.pointer (some ⟨q, 0, none⟩)) ∧ w.heap.size ≤ q ∧ NetAt w' q v ds' ls sent ∧ (∀ k, v.ownBlock = some k → w.heap.size ≤ k) ∧ Below w.heap.size w w') := by
  have HC1 : Hid (w.drew.cell? ⟨p, 1, none⟩ = some (.int .i64 sent)) := Lib.hid h.c1
  have HN : Hid (NetAt w.drew p lv ds ls sent) := Lib.hid (h.up (Chg.refl _ _).drew)
  have HX := Lib.hid hx
  clear h hx
  go_enter Try.func16, Try.ntmps16
  go_wp2_with fail
  refine MT.region_mono Up [fun v _ => v = .pointer (some ⟨p, 0, none⟩),
      CopA w.drew.heap.size ls,
      fun v _ => v = .pointer (some ⟨p, 0, none⟩),
      fun v _ => v = .pointer (some ⟨p, 0, none⟩),
      fun v _ => v = .pointer (some ⟨p, 1, none⟩),
      fun v _ => v = .int .i64 sent,
      CopB w.drew.heap.size ls sent,
      CopC w.drew.heap.size ls sent,
      CopC w.drew.heap.size ls sent] (by kernel_rfl) (by kernel_rfl) (Chg.refl _) (fun _ _ _ => Chg.trans) (by simp) ?_ ?_ ?_
  · simp only [List.forall_mem_cons]
    exact ⟨fun _ _ _ _ _ h => h, fun _ _ _ _ hu h => CopA.up h hu, fun _ _ _ _ _ h => h, fun _ _ _ _ _ h => h, fun _ _ _ _ _ h => h, fun _ _ _ _ _ h => h, fun _ _ _ _ hu h => CopB.up h hu, fun _ _ _ _ hu h => CopC.up h hu, fun _ _ _ _ hu h => CopC.up h hu, by simp⟩
  · refine ⟨?_, ?_, ?_, ?_, ?_, ?_, ?_, ?_, ?_, trivial⟩
    · intro ρ w1 hw h0 hc hg hf hd
      have s0 : ρ (.tmp 0) = .pointer (some ⟨p, 0, none⟩) := h0 0 (by kernel_rfl)
      refine ⟨fun _ => ?_, fun h => by cases h⟩
      clear h0 hg hd
      exact gives_move rfl ⟨Chg.refl _ _, s0⟩
    · intro ρ w1 hw h0 hc hg hf hd
      have d0 := hd ⟨0, .data⟩ (by simp) rfl _ _ _ rfl rfl rfl
      refine ⟨fun _ => ?_, fun h => by cases h⟩
      clear h0 hg hd
      refine gives_call rfl hf Try.func18 rfl (by kernel_rfl) (args := #[.pointer (some ⟨p, 0, none⟩)]) (by simp [hc, d0]) ((all_any w1 p lv ds ls sent (HN.out.up hw) hn HX.out).mono ?_)
      rintro e w2 ⟨v, ds2, rfl, hcop, hb⟩
      obtain ⟨A, c, rfl⟩ := own_shape hcop.2.1
      exact ⟨_, rfl, up_below hb, A, c, ds2, rfl, hcop.1, own_base hcop.2.1 hw.size, fun j hj => own_base (hcop.2.2 j hj) hw.size⟩
    · intro ρ w1 hw h0 hc hg hf hd
      have s0 : ρ (.tmp 0) = .pointer (some ⟨p, 0, none⟩) := h0 0 (by kernel_rfl)
      refine ⟨fun _ => ?_, fun h => by cases h⟩
      clear h0 hg hd
      exact gives_move rfl ⟨Chg.refl _ _, s0⟩
    · intro ρ w1 hw h0 hc hg hf hd
      have d2 := hd ⟨2, .data⟩ (by simp) rfl _ _ _ rfl rfl rfl
      refine ⟨fun _ => ?_, fun h => by cases h⟩
      clear h0 hg hd
      clear hf
      refine Gives.value (w' := w1) ?_ ⟨Chg.refl _ _, rfl⟩
      go_simp
    · intro ρ w1 hw h0 hc hg hf hd
      have d3 := hd ⟨3, .data⟩ (by simp) rfl _ _ _ rfl rfl rfl
      refine ⟨fun _ => ?_, fun h => by cases h⟩
      clear h0 hg hd
      clear hf
      refine Gives.value (w' := w1) ?_ ⟨Chg.refl _ _, rfl⟩
      go_simp
    · intro ρ w1 hw h0 hc hg hf hd
      have d4 := hd ⟨4, .data⟩ (by simp) rfl _ _ _ rfl rfl rfl
      refine ⟨fun _ => ?_, fun h => by cases h⟩
      clear h0 hg hd
      clear hc hf
      have c0 := hw.cell HC1.out (fun h => h)
      refine Gives.value (w' := w1) ?_ ⟨Chg.refl _ _, rfl⟩
      go_simp
    · intro ρ w1 hw h0 hc hg hf hd
      have d1 := hd ⟨1, .data⟩ (by simp) rfl _ _ _ rfl rfl rfl
      have d5 := hd ⟨5, .data⟩ (by simp) rfl _ _ _ rfl rfl rfl
      refine ⟨fun _ => ?_, fun h => by cases h⟩
      clear h0 hg hd
      clear hf
      obtain ⟨A, c, ds2, e1, hcop⟩ := d1
      refine Gives.value (v := .agg #[.slice A ls.length c, .int .i64 sent]) (w' := w1) ?_ ⟨Chg.refl _ _, A, c, ds2, rfl, hcop⟩
      unfold execOp
      simp [e1, d5]
      kernel_rfl
    · intro ρ w1 hw h0 hc hg hf hd
      have d6 := hd ⟨6, .data⟩ (by simp) rfl _ _ _ rfl rfl rfl
      refine ⟨fun _ => ?_, fun h => by cases h⟩
      clear h0 hg hd
      clear hf
      obtain ⟨A, c, ds2, e1, hcop⟩ := d6
      have hu : Up w1 (w1.alloc (.cells #[.slice A ls.length c, .int .i64 sent] 57)) := (Chg.refl _ w1).alloc _
      refine Gives.value (v := .pointer (some ⟨w1.heap.size, 0, none⟩)) (w' := w1.alloc (.cells #[.slice A ls.length c, .int .i64 sent] 57)) ?_ ⟨hu, w1.heap.size, A, c, ds2, rfl, hw.size, heap_alloc_last _ _, hcop.up hu⟩
      go_simp
    · intro ρ w1 hw h0 hc hg hf hd
      have d7 := hd ⟨7, .data⟩ (by simp) rfl _ _ _ rfl rfl rfl
      refine ⟨fun _ => ?_, fun h => by cases h⟩
      clear h0 hg hd
      exact gives_assign rfl ⟨Chg.refl _ _, d7⟩
  · intro vs w2 hw hr
    have h8 := hr 8 _ rfl
    clear hr
    dsimp only [putsL, restL]
    simp only [Act.put, List.setIfInBounds_toArray, List.set_cons_zero, List.set_cons_succ]
    obtain ⟨q, A, c, ds2, e8, hq, hobj, hcop⟩ := h8
    rw [e8]
    have hu : Up w w2 := (Chg.refl (fun _ => False) w).drew.trans hw
    have HNET := Lib.hid (hcop.net hobj)
    have HU := Lib.hid hu
    have HLT := Lib.hid (fun k hk => (hcop.2.1.lt k hk).1)
    clear hw e8 hobj hcop hu
    go_wp2
    go_ret
    exact ⟨q, .slice A ls.length c, ds2, rfl, hq, HNET.out, HLT.out, HU.out.below_none (fun _ _ h => h)⟩
end Go.Proofs.Ytofmblkmfbioiaa
