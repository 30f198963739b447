/-
  Differ, walked; a disk beside another one.
-/
import Derived.Test.YtkndnlhlglgmfaaE14
namespace Go.Proofs.Ytkndnlhlglgmfaa
open Go.RowKit
/-- The sectors that two have not alike, among the first k. -/
def diffI (x y : Dk) (k : Nat) : List Int := ((List.range k).filter (fun i => !eqS (nowI x (i : Nat)) (nowI y (i : Nat)))).map (fun i : Nat => (i : Int))
def differI (x y : Dk) : List Int := diffI x y x.has.length
def AlikeB (x y : Dk) : Bool := x.has.length == y.has.length && x.size == y.size
theorem diffI_succ (x y : Dk) (k : Nat) : diffI x y (k + 1) = if eqS (nowI x k) (nowI y k) then diffI x y k else diffI x y k ++ [(k : Int)] := by
  unfold diffI
  rw [List.range_succ, List.filter_append, List.map_append]
  cases h : eqS (nowI x k) (nowI y k) <;> simp [h]
theorem diffI_len (x y : Dk) (k : Nat) : (diffI x y k).length ≤ k := by
  unfold diffI
  rw [List.length_map]
  exact Nat.le_trans (List.length_filter_le _ _) (by simp)
theorem i64s_app (a b : List Int) : i64s (a ++ b) = i64s a ++ i64s b := by simp [i64s]
/-- A number at the end of a row of the call's own. -/
theorem push_num (w : World) (base : Nat) (v : Value) (L : List Int) (hown : w.ownsRow base 3 1 v L.length (i64s L)) (z : Int) (hb : base ≤ w.heap.size) (hn : L.length ≤ 1000000) :
    ∃ A c w', (Builtin.append_ #[29, 29] 29 #[v, .slice (some ⟨w.heap.size, 0, none⟩) 1 1]).run Try.prog (w.alloc (.cells #[.int .i64 z] 3)) = .ok (.slice A (L ++ [z]).length c) w' ∧
      w'.ownsRow base 3 1 (.slice A (L ++ [z]).length c) (L ++ [z]).length (i64s (L ++ [z])) ∧ Chg (fun k => base ≤ k) w w' := by
  obtain ⟨A, c, w', h1, h2, h3, _⟩ := push_run (P := Try.prog) w 29 29 base 3 (.int .i64 0) 8 Try.underlying29 (by kernel_rfl) rfl v L.length (i64s L) hown [.int .i64 z] 1 rfl (by simp [Value.oneCell']) (by omega) (by omega) hb
  refine ⟨A, c, w', by simpa using h1, by simpa [i64s] using h2, h3.mono (fun k _ hk => ?_)⟩
  rcases hown.2 with ⟨rfl, _⟩ | ⟨g, cap, cur, rfl, hg, _⟩
  · simp [Value.ownBlock] at hk
  · simp [Value.ownBlock] at hk; omega
def DifPost (w : World) (x y : Dk) (e : Ending) (w' : World) : Prop := ∃ v L, e = .returned (.tuple #[v, .bool (AlikeB x y)]) ∧ L = (if AlikeB x y then differI x y else []) ∧ w'.ownsRow w.heap.size 3 1 v L.length (i64s L) ∧ Below w.heap.size w w'
/-- What another disk does leaves this one. -/
theorem DiskAt.keep {w w' : World} {p b m p2 b2 m2 : Nat} {sv sv2 : Value} {ss ss2 : List Value} {C C2 : Int → Option Value} {x y : Dk} (h : DiskAt w p b m sv ss C x) (k : DiskAt w p2 b2 m2 sv2 ss2 C2 y) (hs : ∀ j, OwnD p b sv j → ¬ OwnD p2 b2 sv2 j) (hc : Chg (OwnD p2 b2 sv2) w w') : DiskAt w' p b m sv ss C x := by
  refine h.chg hc (hs p (.inl rfl)) (hs b (.inr (.inl rfl))) (fun j hj => hs j (.inr (.inr hj))) (fun j cur fr hj hh => ?_)
  rcases hj with rfl | rfl | hj
  · rw [k.obj] at hh; cases hh
  · obtain ⟨es, cl, hb⟩ := k.map.block
    rw [hb] at hh; cases hh
  · obtain ⟨cu, fu, hg⟩ := own_type k.row j hj
    rw [hg] at hh; cases hh
/-- What is above leaves it. -/
theorem DiskAt.low {w w' : World} {p b m : Nat} {sv : Value} {ss : List Value} {C : Int → Option Value} {x : Dk} (h : DiskAt w p b m sv ss C x) (hc : Chg (fun i => w.heap.size ≤ i) w w') : DiskAt w' p b m sv ss C x := h.up (hc.below_none (fun i hi h => by omega) |> up_below)
set_option maxRecDepth 100000 in
set_option maxHeartbeats 4000000 in
theorem differ_any (w : World) (p b m : Nat) (sv : Value) (ss : List Value) (C : Int → Option Value) (x : Dk) (h : DiskAt w p b m sv ss C x) (q b2 m2 : Nat) (sv2 : Value) (ss2 : List Value) (C2 : Int → Option Value) (y : Dk) (h2 : DiskAt w q b2 m2 sv2 ss2 C2 y) (hnb : x.has.length ≤ 65536) : Calls Try.prog 21 #[.pointer (some ⟨p, 0, none⟩), .pointer (some ⟨q, 0, none⟩)] w (DifPost w x y) := by
  have H1 : Hid (DiskAt w.drew p b m sv ss C x) := Lib.hid (h.up (Chg.refl _ w).drew)
  have H2 : Hid (DiskAt w.drew q b2 m2 sv2 ss2 C2 y) := Lib.hid (h2.up (Chg.refl _ w).drew)
  have H1' := Lib.hid h
  have H2' := Lib.hid h2
  obtain ⟨A, cs, rfl⟩ := own_shape h.row
  have HL := Lib.hid h.len
  have HNB := Lib.hid hnb
  clear h h2
  by_cases hn : x.has.length ≠ y.has.length
  · have hn' : ((x.has.length : Int) != (y.has.length : Int)) = true := by rw [bne_iff_ne]; omega
    have HF : Hid (AlikeB x y = false) := Lib.hid (by unfold AlikeB; simp; omega)
    go_enter Try.func21, Try.ntmps21
    go_wp2_with fail
    refine MT.region_mono Up [fun v _ => v = .pointer (some ⟨p, 0, none⟩),
        fun v _ => v = .int .i64 (x.has.length : Int),
        fun v _ => v = .pointer (some ⟨q, 0, none⟩),
        fun v _ => v = .int .i64 (y.has.length : Int),
        fun v _ => v = .bool true,
        fun v _ => v = .bool true,
        fun _ _ => True,
        fun _ _ => True,
        fun _ _ => True,
        fun _ _ => True,
        fun _ _ => True,
        fun _ _ => True,
        fun _ _ => True,
        fun _ _ => True,
        fun _ _ => True,
        fun v _ => v = .bool true] (by kernel_rfl) (by kernel_rfl) (Chg.refl _) (fun _ _ _ => Chg.trans) (by simp) ?_ ?_ ?_
    · simp only [List.forall_mem_cons]
      exact ⟨fun _ _ _ _ _ h => h, fun _ _ _ _ _ h => h, fun _ _ _ _ _ h => h, fun _ _ _ _ _ h => h, fun _ _ _ _ _ h => h, fun _ _ _ _ _ h => h, fun _ _ _ _ _ h => h, fun _ _ _ _ _ h => h, fun _ _ _ _ _ h => h, fun _ _ _ _ _ h => h, fun _ _ _ _ _ h => h, fun _ _ _ _ _ h => h, fun _ _ _ _ _ h => h, fun _ _ _ _ _ h => h, fun _ _ _ _ _ h => h, fun _ _ _ _ _ h => h, by simp⟩
    · refine ⟨?_, ?_, ?_, ?_, ?_, ?_, ?_, ?_, ?_, ?_, ?_, ?_, ?_, ?_, ?_, ?_, trivial⟩
      · intro ρ w1 hw h0 hc hg hf hd
        have s0 : ρ (.tmp 0) = .pointer (some ⟨p, 0, none⟩) := h0 0 (by kernel_rfl)
        refine ⟨fun _ => ?_, fun h => by cases h⟩
        clear h0 hg hd
        exact gives_move rfl ⟨Chg.refl _ _, s0⟩
      · intro ρ w1 hw h0 hc hg hf hd
        have d0 := hd ⟨0, .data⟩ (by simp) rfl _ _ _ rfl rfl rfl
        refine ⟨fun _ => ?_, fun h => by cases h⟩
        clear h0 hg hd
        refine gives_call rfl hf Try.func53 rfl (by kernel_rfl) (args := #[.pointer (some ⟨p, 0, none⟩)]) (by simp [d0]) ((sectors_any w1 _ _ _ _ _ _ _ (H1.out.up hw)).mono ?_)
        rintro e w2 ⟨rfl, rfl⟩
        exact ⟨_, rfl, Chg.refl _ _, rfl⟩
      · intro ρ w1 hw h0 hc hg hf hd
        have s1 : ρ (.tmp 1) = .pointer (some ⟨q, 0, none⟩) := h0 1 (by kernel_rfl)
        refine ⟨fun _ => ?_, fun h => by cases h⟩
        clear h0 hg hd
        exact gives_move rfl ⟨Chg.refl _ _, s1⟩
      · intro ρ w1 hw h0 hc hg hf hd
        have d2 := hd ⟨2, .data⟩ (by simp) rfl _ _ _ rfl rfl rfl
        refine ⟨fun _ => ?_, fun h => by cases h⟩
        clear h0 hg hd
        refine gives_call rfl hf Try.func53 rfl (by kernel_rfl) (args := #[.pointer (some ⟨q, 0, none⟩)]) (by simp [d2]) ((sectors_any w1 _ _ _ _ _ _ _ (H2.out.up hw)).mono ?_)
        rintro e w2 ⟨rfl, rfl⟩
        exact ⟨_, rfl, Chg.refl _ _, rfl⟩
      · intro ρ w1 hw h0 hc hg hf hd
        have d1 := hd ⟨1, .data⟩ (by simp) rfl _ _ _ rfl rfl rfl
        have d3 := hd ⟨3, .data⟩ (by simp) rfl _ _ _ rfl rfl rfl
        refine ⟨fun _ => ?_, fun h => by cases h⟩
        clear h0 hg hd
        clear hc hf
        refine Gives.value (w' := w1) ?_ ⟨Chg.refl _ _, rfl⟩
        go_simp
      · intro ρ w1 hw h0 hc hg hf hd
        have d4 := hd ⟨4, .data⟩ (by simp) rfl _ _ _ rfl rfl rfl
        refine ⟨fun _ => ?_, fun h => by cases h⟩
        clear h0 hg hd
        exact gives_move rfl ⟨Chg.refl _ _, d4⟩
      · intro ρ w1 hw h0 hc hg hf hd
        have d5 := hd ⟨5, .guard⟩ (by simp) rfl _ _ _ rfl rfl rfl
        exact ⟨fun hx => (by rw [wantedBy_false rfl rfl rfl d5] at hx; cases hx), fun _ => trivial⟩
      · intro ρ w1 hw h0 hc hg hf hd
        have d5 := hd ⟨5, .guard⟩ (by simp) rfl _ _ _ rfl rfl rfl
        exact ⟨fun hx => (by rw [wantedBy_false rfl rfl rfl d5] at hx; cases hx), fun _ => trivial⟩
      · intro ρ w1 hw h0 hc hg hf hd
        have d5 := hd ⟨5, .guard⟩ (by simp) rfl _ _ _ rfl rfl rfl
        exact ⟨fun hx => (by rw [wantedBy_false rfl rfl rfl d5] at hx; cases hx), fun _ => trivial⟩
      · intro ρ w1 hw h0 hc hg hf hd
        have d5 := hd ⟨5, .guard⟩ (by simp) rfl _ _ _ rfl rfl rfl
        exact ⟨fun hx => (by rw [wantedBy_false rfl rfl rfl d5] at hx; cases hx), fun _ => trivial⟩
      · intro ρ w1 hw h0 hc hg hf hd
        have d5 := hd ⟨5, .guard⟩ (by simp) rfl _ _ _ rfl rfl rfl
        exact ⟨fun hx => (by rw [wantedBy_false rfl rfl rfl d5] at hx; cases hx), fun _ => trivial⟩
      · intro ρ w1 hw h0 hc hg hf hd
        have d5 := hd ⟨5, .guard⟩ (by simp) rfl _ _ _ rfl rfl rfl
        exact ⟨fun hx => (by rw [wantedBy_false rfl rfl rfl d5] at hx; cases hx), fun _ => trivial⟩
      · intro ρ w1 hw h0 hc hg hf hd
        have d5 := hd ⟨5, .guard⟩ (by simp) rfl _ _ _ rfl rfl rfl
        exact ⟨fun hx => (by rw [wantedBy_false rfl rfl rfl d5] at hx; cases hx), fun _ => trivial⟩
      · intro ρ w1 hw h0 hc hg hf hd
        have d5 := hd ⟨5, .guard⟩ (by simp) rfl _ _ _ rfl rfl rfl
        exact ⟨fun hx => (by rw [wantedBy_false rfl rfl rfl d5] at hx; cases hx), fun _ => trivial⟩
      · intro ρ w1 hw h0 hc hg hf hd
        have d5 := hd ⟨5, .guard⟩ (by simp) rfl _ _ _ rfl rfl rfl
        exact ⟨fun hx => (by rw [wantedBy_false rfl rfl rfl d5] at hx; cases hx), fun _ => trivial⟩
      · intro ρ w1 hw h0 hc hg hf hd
        have d5 := hd ⟨5, .data⟩ (by simp) rfl _ _ _ rfl rfl rfl
        have d14 := hd ⟨14, .data⟩ (by simp) rfl _ _ _ rfl rfl rfl
        refine ⟨fun _ => ?_, fun h => by cases h⟩
        clear h0 hg hd
        refine Gives.value (w' := w1) ?_ ⟨Chg.refl _ _, rfl⟩
        go_simp
    · intro vs w2 hw hr
      have h15 := hr 15 _ rfl
      clear hr
      dsimp only [putsL, restL]
      simp only [Act.put, List.setIfInBounds_toArray, List.set_cons_zero, List.set_cons_succ]
      simp only [Nat.zero_add, Nat.reduceAdd]
      rw [h15]
      have HW : Hid (Up w w2) := Lib.hid ((Chg.refl (fun _ => False) w).drew.trans hw)
      clear hw h15
      go_wp2_with fail
      go_ret2
      exact ⟨.slice none 0 0, [], by rw [HF.out]; rfl, by rw [HF.out]; rfl, World.ownsRow_nil _ _ _ _, HW.out.below (Nat.le_refl _) (fun _ h => h.elim)⟩
  have hn' : ((x.has.length : Int) != (y.has.length : Int)) = false := by rw [bne_eq_false_iff_eq]; omega
  by_cases hz : x.size ≠ y.size
  · have hz' : ((x.size : Int) != (y.size : Int)) = true := by rw [bne_iff_ne]; omega
    have HF : Hid (AlikeB x y = false) := Lib.hid (by unfold AlikeB; simp; omega)
    go_enter Try.func21, Try.ntmps21
    go_wp2_with fail
    refine MT.region_mono Up [fun v _ => v = .pointer (some ⟨p, 0, none⟩),
        fun v _ => v = .int .i64 (x.has.length : Int),
        fun v _ => v = .pointer (some ⟨q, 0, none⟩),
        fun v _ => v = .int .i64 (y.has.length : Int),
        fun v _ => v = .bool false,
        fun v _ => v = .bool false,
        fun v _ => v = .pointer (some ⟨p, 0, none⟩),
        fun v _ => v = .pointer (some ⟨p, 0, none⟩),
        fun v _ => v = .pointer (some ⟨p, 0, none⟩),
        fun v _ => v = .int .i64 (x.size : Int),
        fun v _ => v = .pointer (some ⟨q, 0, none⟩),
        fun v _ => v = .pointer (some ⟨q, 0, none⟩),
        fun v _ => v = .pointer (some ⟨q, 0, none⟩),
        fun v _ => v = .int .i64 (y.size : Int),
        fun v _ => v = .bool true,
        fun v _ => v = .bool true] (by kernel_rfl) (by kernel_rfl) (Chg.refl _) (fun _ _ _ => Chg.trans) (by simp) ?_ ?_ ?_
    · simp only [List.forall_mem_cons]
      exact ⟨fun _ _ _ _ _ h => h, fun _ _ _ _ _ h => h, fun _ _ _ _ _ h => h, fun _ _ _ _ _ h => h, fun _ _ _ _ _ h => h, fun _ _ _ _ _ h => h, fun _ _ _ _ _ h => h, fun _ _ _ _ _ h => h, fun _ _ _ _ _ h => h, fun _ _ _ _ _ h => h, fun _ _ _ _ _ h => h, fun _ _ _ _ _ h => h, fun _ _ _ _ _ h => h, fun _ _ _ _ _ h => h, fun _ _ _ _ _ h => h, fun _ _ _ _ _ h => h, by simp⟩
    · refine ⟨?_, ?_, ?_, ?_, ?_, ?_, ?_, ?_, ?_, ?_, ?_, ?_, ?_, ?_, ?_, ?_, trivial⟩
      · intro ρ w1 hw h0 hc hg hf hd
        have s0 : ρ (.tmp 0) = .pointer (some ⟨p, 0, none⟩) := h0 0 (by kernel_rfl)
        refine ⟨fun _ => ?_, fun h => by cases h⟩
        clear h0 hg hd
        exact gives_move rfl ⟨Chg.refl _ _, s0⟩
      · intro ρ w1 hw h0 hc hg hf hd
        have d0 := hd ⟨0, .data⟩ (by simp) rfl _ _ _ rfl rfl rfl
        refine ⟨fun _ => ?_, fun h => by cases h⟩
        clear h0 hg hd
        refine gives_call rfl hf Try.func53 rfl (by kernel_rfl) (args := #[.pointer (some ⟨p, 0, none⟩)]) (by simp [d0]) ((sectors_any w1 _ _ _ _ _ _ _ (H1.out.up hw)).mono ?_)
        rintro e w2 ⟨rfl, rfl⟩
        exact ⟨_, rfl, Chg.refl _ _, rfl⟩
      · intro ρ w1 hw h0 hc hg hf hd
        have s1 : ρ (.tmp 1) = .pointer (some ⟨q, 0, none⟩) := h0 1 (by kernel_rfl)
        refine ⟨fun _ => ?_, fun h => by cases h⟩
        clear h0 hg hd
        exact gives_move rfl ⟨Chg.refl _ _, s1⟩
      · intro ρ w1 hw h0 hc hg hf hd
        have d2 := hd ⟨2, .data⟩ (by simp) rfl _ _ _ rfl rfl rfl
        refine ⟨fun _ => ?_, fun h => by cases h⟩
        clear h0 hg hd
        refine gives_call rfl hf Try.func53 rfl (by kernel_rfl) (args := #[.pointer (some ⟨q, 0, none⟩)]) (by simp [d2]) ((sectors_any w1 _ _ _ _ _ _ _ (H2.out.up hw)).mono ?_)
        rintro e w2 ⟨rfl, rfl⟩
        exact ⟨_, rfl, Chg.refl _ _, rfl⟩
      · intro ρ w1 hw h0 hc hg hf hd
        have d1 := hd ⟨1, .data⟩ (by simp) rfl _ _ _ rfl rfl rfl
        have d3 := hd ⟨3, .data⟩ (by simp) rfl _ _ _ rfl rfl rfl
        refine ⟨fun _ => ?_, fun h => by cases h⟩
        clear h0 hg hd
        clear hc hf
        refine Gives.value (w' := w1) ?_ ⟨Chg.refl _ _, rfl⟩
        go_simp
      · intro ρ w1 hw h0 hc hg hf hd
        have d4 := hd ⟨4, .data⟩ (by simp) rfl _ _ _ rfl rfl rfl
        refine ⟨fun _ => ?_, fun h => by cases h⟩
        clear h0 hg hd
        exact gives_move rfl ⟨Chg.refl _ _, d4⟩
      · intro ρ w1 hw h0 hc hg hf hd
        have d5 := hd ⟨5, .guard⟩ (by simp) rfl _ _ _ rfl rfl rfl
        have s0 : ρ (.tmp 0) = .pointer (some ⟨p, 0, none⟩) := h0 0 (by kernel_rfl)
        refine ⟨fun _ => ?_, fun h => by rw [wantedBy_true rfl rfl rfl d5] at h; cases h⟩
        clear d5
        clear h0 hg hd
        exact gives_move rfl ⟨Chg.refl _ _, s0⟩
      · intro ρ w1 hw h0 hc hg hf hd
        have d6 := hd ⟨6, .data⟩ (by simp) rfl _ _ _ rfl rfl rfl
        have d5 := hd ⟨5, .guard⟩ (by simp) rfl _ _ _ rfl rfl rfl
        refine ⟨fun _ => ?_, fun h => by rw [wantedBy_true rfl rfl rfl d5] at h; cases h⟩
        clear d5
        clear h0 hg hd
        clear hf
        refine Gives.value (w' := w1) ?_ ⟨Chg.refl _ _, rfl⟩
        go_simp
      · intro ρ w1 hw h0 hc hg hf hd
        have d7 := hd ⟨7, .data⟩ (by simp) rfl _ _ _ rfl rfl rfl
        have d5 := hd ⟨5, .guard⟩ (by simp) rfl _ _ _ rfl rfl rfl
        refine ⟨fun _ => ?_, fun h => by rw [wantedBy_true rfl rfl rfl d5] at h; cases h⟩
        clear d5
        clear h0 hg hd
        clear hf
        refine Gives.value (w' := w1) ?_ ⟨Chg.refl _ _, rfl⟩
        go_simp
      · intro ρ w1 hw h0 hc hg hf hd
        have d8 := hd ⟨8, .data⟩ (by simp) rfl _ _ _ rfl rfl rfl
        have d5 := hd ⟨5, .guard⟩ (by simp) rfl _ _ _ rfl rfl rfl
        refine ⟨fun _ => ?_, fun h => by rw [wantedBy_true rfl rfl rfl d5] at h; cases h⟩
        clear d5
        clear h0 hg hd
        clear hc hf
        have c1 := (H1.out.up hw).c0
        refine Gives.value (w' := w1) ?_ ⟨Chg.refl _ _, rfl⟩
        go_simp
      · intro ρ w1 hw h0 hc hg hf hd
        have d5 := hd ⟨5, .guard⟩ (by simp) rfl _ _ _ rfl rfl rfl
        have s1 : ρ (.tmp 1) = .pointer (some ⟨q, 0, none⟩) := h0 1 (by kernel_rfl)
        refine ⟨fun _ => ?_, fun h => by rw [wantedBy_true rfl rfl rfl d5] at h; cases h⟩
        clear d5
        clear h0 hg hd
        exact gives_move rfl ⟨Chg.refl _ _, s1⟩
      · intro ρ w1 hw h0 hc hg hf hd
        have d10 := hd ⟨10, .data⟩ (by simp) rfl _ _ _ rfl rfl rfl
        have d5 := hd ⟨5, .guard⟩ (by simp) rfl _ _ _ rfl rfl rfl
        refine ⟨fun _ => ?_, fun h => by rw [wantedBy_true rfl rfl rfl d5] at h; cases h⟩
        clear d5
        clear h0 hg hd
        clear hf
        refine Gives.value (w' := w1) ?_ ⟨Chg.refl _ _, rfl⟩
        go_simp
      · intro ρ w1 hw h0 hc hg hf hd
        have d11 := hd ⟨11, .data⟩ (by simp) rfl _ _ _ rfl rfl rfl
        have d5 := hd ⟨5, .guard⟩ (by simp) rfl _ _ _ rfl rfl rfl
        refine ⟨fun _ => ?_, fun h => by rw [wantedBy_true rfl rfl rfl d5] at h; cases h⟩
        clear d5
        clear h0 hg hd
        clear hf
        refine Gives.value (w' := w1) ?_ ⟨Chg.refl _ _, rfl⟩
        go_simp
      · intro ρ w1 hw h0 hc hg hf hd
        have d12 := hd ⟨12, .data⟩ (by simp) rfl _ _ _ rfl rfl rfl
        have d5 := hd ⟨5, .guard⟩ (by simp) rfl _ _ _ rfl rfl rfl
        refine ⟨fun _ => ?_, fun h => by rw [wantedBy_true rfl rfl rfl d5] at h; cases h⟩
        clear d5
        clear h0 hg hd
        clear hc hf
        have c1 := (H2.out.up hw).c0
        refine Gives.value (w' := w1) ?_ ⟨Chg.refl _ _, rfl⟩
        go_simp
      · intro ρ w1 hw h0 hc hg hf hd
        have d9 := hd ⟨9, .data⟩ (by simp) rfl _ _ _ rfl rfl rfl
        have d13 := hd ⟨13, .data⟩ (by simp) rfl _ _ _ rfl rfl rfl
        have d5 := hd ⟨5, .guard⟩ (by simp) rfl _ _ _ rfl rfl rfl
        refine ⟨fun _ => ?_, fun h => by rw [wantedBy_true rfl rfl rfl d5] at h; cases h⟩
        clear d5
        clear h0 hg hd
        clear hf
        refine Gives.value (w' := w1) ?_ ⟨Chg.refl _ _, rfl⟩
        go_simp
      · intro ρ w1 hw h0 hc hg hf hd
        have d5 := hd ⟨5, .data⟩ (by simp) rfl _ _ _ rfl rfl rfl
        have d14 := hd ⟨14, .data⟩ (by simp) rfl _ _ _ rfl rfl rfl
        refine ⟨fun _ => ?_, fun h => by cases h⟩
        clear h0 hg hd
        refine Gives.value (w' := w1) ?_ ⟨Chg.refl _ _, rfl⟩
        go_simp
    · intro vs w2 hw hr
      have h15 := hr 15 _ rfl
      clear hr
      dsimp only [putsL, restL]
      simp only [Act.put, List.setIfInBounds_toArray, List.set_cons_zero, List.set_cons_succ]
      simp only [Nat.zero_add, Nat.reduceAdd]
      rw [h15]
      have HW : Hid (Up w w2) := Lib.hid ((Chg.refl (fun _ => False) w).drew.trans hw)
      clear hw h15
      go_wp2_with fail
      go_ret2
      exact ⟨.slice none 0 0, [], by rw [HF.out]; rfl, by rw [HF.out]; rfl, World.ownsRow_nil _ _ _ _, HW.out.below (Nat.le_refl _) (fun _ h => h.elim)⟩
  · have hz' : ((x.size : Int) != (y.size : Int)) = false := by rw [bne_eq_false_iff_eq]; omega
    have HLN : Hid (x.has.length = y.has.length) := Lib.hid (by omega)
    have HF : Hid (AlikeB x y = true) := Lib.hid (by unfold AlikeB; simp; omega)
    go_enter Try.func21, Try.ntmps21
    go_wp2_with fail
    refine MT.region_mono Up [fun v _ => v = .pointer (some ⟨p, 0, none⟩),
        fun v _ => v = .int .i64 (x.has.length : Int),
        fun v _ => v = .pointer (some ⟨q, 0, none⟩),
        fun v _ => v = .int .i64 (y.has.length : Int),
        fun v _ => v = .bool false,
        fun v _ => v = .bool false,
        fun v _ => v = .pointer (some ⟨p, 0, none⟩),
        fun v _ => v = .pointer (some ⟨p, 0, none⟩),
        fun v _ => v = .pointer (some ⟨p, 0, none⟩),
        fun v _ => v = .int .i64 (x.size : Int),
        fun v _ => v = .pointer (some ⟨q, 0, none⟩),
        fun v _ => v = .pointer (some ⟨q, 0, none⟩),
        fun v _ => v = .pointer (some ⟨q, 0, none⟩),
        fun v _ => v = .int .i64 (y.size : Int),
        fun v _ => v = .bool false,
        fun v _ => v = .bool false] (by kernel_rfl) (by kernel_rfl) (Chg.refl _) (fun _ _ _ => Chg.trans) (by simp) ?_ ?_ ?_
    · simp only [List.forall_mem_cons]
      exact ⟨fun _ _ _ _ _ h => h, fun _ _ _ _ _ h => h, fun _ _ _ _ _ h => h, fun _ _ _ _ _ h => h, fun _ _ _ _ _ h => h, fun _ _ _ _ _ h => h, fun _ _ _ _ _ h => h, fun _ _ _ _ _ h => h, fun _ _ _ _ _ h => h, fun _ _ _ _ _ h => h, fun _ _ _ _ _ h => h, fun _ _ _ _ _ h => h, fun _ _ _ _ _ h => h, fun _ _ _ _ _ h => h, fun _ _ _ _ _ h => h, fun _ _ _ _ _ h => h, by simp⟩
    · refine ⟨?_, ?_, ?_, ?_, ?_, ?_, ?_, ?_, ?_, ?_, ?_, ?_, ?_, ?_, ?_, ?_, trivial⟩
      · intro ρ w1 hw h0 hc hg hf hd
        have s0 : ρ (.tmp 0) = .pointer (some ⟨p, 0, none⟩) := h0 0 (by kernel_rfl)
        refine ⟨fun _ => ?_, fun h => by cases h⟩
        clear h0 hg hd
        exact gives_move rfl ⟨Chg.refl _ _, s0⟩
      · intro ρ w1 hw h0 hc hg hf hd
        have d0 := hd ⟨0, .data⟩ (by simp) rfl _ _ _ rfl rfl rfl
        refine ⟨fun _ => ?_, fun h => by cases h⟩
        clear h0 hg hd
        refine gives_call rfl hf Try.func53 rfl (by kernel_rfl) (args := #[.pointer (some ⟨p, 0, none⟩)]) (by simp [d0]) ((sectors_any w1 _ _ _ _ _ _ _ (H1.out.up hw)).mono ?_)
        rintro e w2 ⟨rfl, rfl⟩
        exact ⟨_, rfl, Chg.refl _ _, rfl⟩
      · intro ρ w1 hw h0 hc hg hf hd
        have s1 : ρ (.tmp 1) = .pointer (some ⟨q, 0, none⟩) := h0 1 (by kernel_rfl)
        refine ⟨fun _ => ?_, fun h => by cases h⟩
        clear h0 hg hd
        exact gives_move rfl ⟨Chg.refl _ _, s1⟩
      · intro ρ w1 hw h0 hc hg hf hd
        have d2 := hd ⟨2, .data⟩ (by simp) rfl _ _ _ rfl rfl rfl
        refine ⟨fun _ => ?_, fun h => by cases h⟩
        clear h0 hg hd
        refine gives_call rfl hf Try.func53 rfl (by kernel_rfl) (args := #[.pointer (some ⟨q, 0, none⟩)]) (by simp [d2]) ((sectors_any w1 _ _ _ _ _ _ _ (H2.out.up hw)).mono ?_)
        rintro e w2 ⟨rfl, rfl⟩
        exact ⟨_, rfl, Chg.refl _ _, rfl⟩
      · intro ρ w1 hw h0 hc hg hf hd
        have d1 := hd ⟨1, .data⟩ (by simp) rfl _ _ _ rfl rfl rfl
        have d3 := hd ⟨3, .data⟩ (by simp) rfl _ _ _ rfl rfl rfl
        refine ⟨fun _ => ?_, fun h => by cases h⟩
        clear h0 hg hd
        clear hc hf
        refine Gives.value (w' := w1) ?_ ⟨Chg.refl _ _, rfl⟩
        go_simp
      · intro ρ w1 hw h0 hc hg hf hd
        have d4 := hd ⟨4, .data⟩ (by simp) rfl _ _ _ rfl rfl rfl
        refine ⟨fun _ => ?_, fun h => by cases h⟩
        clear h0 hg hd
        exact gives_move rfl ⟨Chg.refl _ _, d4⟩
      · intro ρ w1 hw h0 hc hg hf hd
        have d5 := hd ⟨5, .guard⟩ (by simp) rfl _ _ _ rfl rfl rfl
        have s0 : ρ (.tmp 0) = .pointer (some ⟨p, 0, none⟩) := h0 0 (by kernel_rfl)
        refine ⟨fun _ => ?_, fun h => by rw [wantedBy_true rfl rfl rfl d5] at h; cases h⟩
        clear d5
        clear h0 hg hd
        exact gives_move rfl ⟨Chg.refl _ _, s0⟩
      · intro ρ w1 hw h0 hc hg hf hd
        have d6 := hd ⟨6, .data⟩ (by simp) rfl _ _ _ rfl rfl rfl
        have d5 := hd ⟨5, .guard⟩ (by simp) rfl _ _ _ rfl rfl rfl
        refine ⟨fun _ => ?_, fun h => by rw [wantedBy_true rfl rfl rfl d5] at h; cases h⟩
        clear d5
        clear h0 hg hd
        clear hf
        refine Gives.value (w' := w1) ?_ ⟨Chg.refl _ _, rfl⟩
        go_simp
      · intro ρ w1 hw h0 hc hg hf hd
        have d7 := hd ⟨7, .data⟩ (by simp) rfl _ _ _ rfl rfl rfl
        have d5 := hd ⟨5, .guard⟩ (by simp) rfl _ _ _ rfl rfl rfl
        refine ⟨fun _ => ?_, fun h => by rw [wantedBy_true rfl rfl rfl d5] at h; cases h⟩
        clear d5
        clear h0 hg hd
        clear hf
        refine Gives.value (w' := w1) ?_ ⟨Chg.refl _ _, rfl⟩
        go_simp
      · intro ρ w1 hw h0 hc hg hf hd
        have d8 := hd ⟨8, .data⟩ (by simp) rfl _ _ _ rfl rfl rfl
        have d5 := hd ⟨5, .guard⟩ (by simp) rfl _ _ _ rfl rfl rfl
        refine ⟨fun _ => ?_, fun h => by rw [wantedBy_true rfl rfl rfl d5] at h; cases h⟩
        clear d5
        clear h0 hg hd
        clear hc hf
        have c1 := (H1.out.up hw).c0
        refine Gives.value (w' := w1) ?_ ⟨Chg.refl _ _, rfl⟩
        go_simp
      · intro ρ w1 hw h0 hc hg hf hd
        have d5 := hd ⟨5, .guard⟩ (by simp) rfl _ _ _ rfl rfl rfl
        have s1 : ρ (.tmp 1) = .pointer (some ⟨q, 0, none⟩) := h0 1 (by kernel_rfl)
        refine ⟨fun _ => ?_, fun h => by rw [wantedBy_true rfl rfl rfl d5] at h; cases h⟩
        clear d5
        clear h0 hg hd
        exact gives_move rfl ⟨Chg.refl _ _, s1⟩
      · intro ρ w1 hw h0 hc hg hf hd
        have d10 := hd ⟨10, .data⟩ (by simp) rfl _ _ _ rfl rfl rfl
        have d5 := hd ⟨5, .guard⟩ (by simp) rfl _ _ _ rfl rfl rfl
        refine ⟨fun _ => ?_, fun h => by rw [wantedBy_true rfl rfl rfl d5] at h; cases h⟩
        clear d5
        clear h0 hg hd
        clear hf
        refine Gives.value (w' := w1) ?_ ⟨Chg.refl _ _, rfl⟩
        go_simp
      · intro ρ w1 hw h0 hc hg hf hd
        have d11 := hd ⟨11, .data⟩ (by simp) rfl _ _ _ rfl rfl rfl
        have d5 := hd ⟨5, .guard⟩ (by simp) rfl _ _ _ rfl rfl rfl
        refine ⟨fun _ => ?_, fun h => by rw [wantedBy_true rfl rfl rfl d5] at h; cases h⟩
        clear d5
        clear h0 hg hd
        clear hf
        refine Gives.value (w' := w1) ?_ ⟨Chg.refl _ _, rfl⟩
        go_simp
      · intro ρ w1 hw h0 hc hg hf hd
        have d12 := hd ⟨12, .data⟩ (by simp) rfl _ _ _ rfl rfl rfl
        have d5 := hd ⟨5, .guard⟩ (by simp) rfl _ _ _ rfl rfl rfl
        refine ⟨fun _ => ?_, fun h => by rw [wantedBy_true rfl rfl rfl d5] at h; cases h⟩
        clear d5
        clear h0 hg hd
        clear hc hf
        have c1 := (H2.out.up hw).c0
        refine Gives.value (w' := w1) ?_ ⟨Chg.refl _ _, rfl⟩
        go_simp
      · intro ρ w1 hw h0 hc hg hf hd
        have d9 := hd ⟨9, .data⟩ (by simp) rfl _ _ _ rfl rfl rfl
        have d13 := hd ⟨13, .data⟩ (by simp) rfl _ _ _ rfl rfl rfl
        have d5 := hd ⟨5, .guard⟩ (by simp) rfl _ _ _ rfl rfl rfl
        refine ⟨fun _ => ?_, fun h => by rw [wantedBy_true rfl rfl rfl d5] at h; cases h⟩
        clear d5
        clear h0 hg hd
        clear hf
        refine Gives.value (w' := w1) ?_ ⟨Chg.refl _ _, rfl⟩
        go_simp
      · intro ρ w1 hw h0 hc hg hf hd
        have d5 := hd ⟨5, .data⟩ (by simp) rfl _ _ _ rfl rfl rfl
        have d14 := hd ⟨14, .data⟩ (by simp) rfl _ _ _ rfl rfl rfl
        refine ⟨fun _ => ?_, fun h => by cases h⟩
        clear h0 hg hd
        refine Gives.value (w' := w1) ?_ ⟨Chg.refl _ _, rfl⟩
        go_simp
    · intro vs w2 hw hr
      have h15 := hr 15 _ rfl
      clear hr
      dsimp only [putsL, restL]
      simp only [Act.put, List.setIfInBounds_toArray, List.set_cons_zero, List.set_cons_succ]
      simp only [Nat.zero_add, Nat.reduceAdd]
      rw [h15]
      have HW : Hid (Up w w2) := Lib.hid ((Chg.refl (fun _ => False) w).drew.trans hw)
      clear hw h15
      have HX := Lib.hid (H1'.out.up HW.out)
      have c1 := HX.out.c1
      rw [HL.out] at c1
      have HY := Lib.hid (H2'.out.up HW.out)
      go_wp2_with fail
      go_loopw [6, 29] (fun o i wr => ∃ (k c : Nat) (B : Option Addr), k ≤ x.has.length ∧ i = .int .i64 k ∧ o = .slice B (diffI x y k).length c ∧ wr.ownsRow w.heap.size 3 1 (.slice B (diffI x y k).length c) (diffI x y k).length (i64s (diffI x y k)) ∧ Chg (fun i => w.heap.size ≤ i) w wr) (fun _ i _ => x.has.length - (intOf i).toNat)
      case atStart => exact ⟨0, 0, none, by omega, rfl, rfl, World.ownsRow_nil _ _ _ _, HW.out.mono (fun _ _ h => h.elim)⟩
      case round =>
        rename World => wr
        obtain ⟨k, c, B, hk, rfl, rfl, hrow, hch⟩ := hrel
        by_cases hk2 : (k : Int) < x.has.length
        · have hx := H1'.out.low hch
          have hy := H2'.out.low hch
          have hd1 := now_any wr p b m _ ss C x hx HNB.out k (by omega)
          have hd2 := now_any wr q b2 m2 sv2 ss2 C2 y hy (by have := HNB.out; have := HLN.out; omega) k (by have := HLN.out; omega)
          have HD1 := Lib.hid hd1
          have HD2 := Lib.hid hd2
          have hsz := hch.size
          have HCH := Lib.hid hch
          have HROW := Lib.hid hrow
          clear hd1 hd2 hx hy hch hrow
          go_wp2_with fail
          refine HD1.out.mono ?_
          rintro e w1 ⟨v1, rfl, hv1, rfl⟩
          have HV1 := Lib.hid hv1
          clear hv1 HD1
          rename World => wr
          go_wp2_with fail
          refine HD2.out.mono ?_
          rintro e w1 ⟨v2, rfl, hv2, rfl⟩
          rename World => wr
          have HEQ := Lib.hid (equal_any wr v1 v2 _ _ (DatB.slb HV1.out) (DatB.slb hv2))
          clear hv2 HD2 HV1
          have HSU := Lib.hid (diffI_succ x y k)
          go_wp2_with fail
          refine HEQ.out.mono ?_
          rintro e w1 ⟨rfl, rfl⟩
          rename World => wr
          clear HEQ
          cases he : eqS (nowI x k) (nowI y k) with
          | true =>
            rw [he, if_pos rfl] at HSU
            go_wp2_with fail
            refine ⟨⟨k + 1, c, B, by omega, by go_num, ?_⟩, by simp [intOf]; omega⟩
            rw [HSU.out]
            exact ⟨rfl, HROW.out, HCH.out⟩
          | false =>
            rw [he, if_neg (by simp)] at HSU
            obtain ⟨A', c', w5, hrun, ho5, hc5⟩ := push_num wr w.heap.size _ _ HROW.out (k : Int) hsz (by have := diffI_len x y k; have := HNB.out; omega)
            have HRUN := Lib.hid hrun
            have HO5 := Lib.hid ho5
            have HC5 := Lib.hid hc5
            clear hrun ho5 hc5
            go_wp2_with (at_builtin; refine wpList_run_append rfl (.tmp 40) (.tmp 42) 29 rfl _ _ rfl rfl 29 rfl HRUN.out ?_)
            refine ⟨⟨k + 1, c', A', by omega, by go_num, ?_⟩, by simp [intOf]; omega⟩
            rw [HSU.out]
            exact ⟨by simp, HO5.out, HCH.out.then HC5.out (fun _ h => .inl h)⟩
        · obtain rfl : k = x.has.length := by omega
          have HCH := Lib.hid hch
          have HROW := Lib.hid hrow
          clear hch hrow
          go_wp2_with fail
          go_ret2
          exact ⟨_, differI x y, by rw [HF.out]; rfl, by rw [HF.out]; rfl, HROW.out, HCH.out.below (Nat.le_refl _) (fun _ h => h)⟩
end Go.Proofs.Ytkndnlhlglgmfaa
