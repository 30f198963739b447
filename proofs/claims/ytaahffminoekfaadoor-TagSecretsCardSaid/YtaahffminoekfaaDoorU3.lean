/-
  TagSecrets, walked.
-/
import Derived.Test.YtaahffminoekfaaDoorU2
import Derived.Test.YtaahffminoekfaaDoorT9
namespace Go.Proofs.YtaahffminoekfaaDoor
open Go.RowKit
theorem num4_eq (a b : Int) : (num4 a = num4 b) ↔ a % 4294967296 = b % 4294967296 := by
  unfold num4
  simp only [List.cons.injEq, and_true]
  constructor
  · rintro ⟨h1, h2, h3, h4⟩; omega
  · intro h; refine ⟨?_, ?_, ?_, ?_⟩ <;> omega
theorem num2_eq (a b : Int) : (num2 a = num2 b) ↔ a % 65536 = b % 65536 := by
  unfold num2
  simp only [List.cons.injEq, and_true]
  constructor
  · rintro ⟨h1, h2⟩; omega
  · intro h; refine ⟨?_, ?_⟩ <;> omega
theorem pair_eq (k : Int) (h a b c d : List Int) (hl : a.length = c.length) : ((k :: (h ++ a ++ b)) == (k :: (h ++ c ++ d))) = ((a == c) && (b == d)) := by
  rw [Bool.eq_iff_iff]
  simp only [beq_iff_eq, List.cons.injEq, true_and, Bool.and_eq_true, List.append_assoc, List.append_cancel_left_eq]
  constructor
  · intro h; exact List.append_inj h hl
  · rintro ⟨rfl, rfl⟩; rfl
theorem pair4_eq (k : Int) (h : List Int) (a b c d : Int) : ((k :: (h ++ num4 a ++ num4 b)) == (k :: (h ++ num4 c ++ num4 d))) = ((a % 4294967296 == c % 4294967296) && (b % 4294967296 == d % 4294967296)) := by
  rw [pair_eq _ _ _ _ _ _ (by simp [num4])]
  congr 1 <;> (rw [Bool.eq_iff_iff]; simp only [beq_iff_eq]; exact num4_eq _ _)
theorem pair2_eq (k : Int) (h : List Int) (a b c d : Int) : ((k :: (h ++ num2 a ++ num2 b)) == (k :: (h ++ num2 c ++ num2 d))) = ((a % 65536 == c % 65536) && (b % 65536 == d % 65536)) := by
  rw [pair_eq _ _ _ _ _ _ (by simp [num2])]
  congr 1 <;> (rw [Bool.eq_iff_iff]; simp only [beq_iff_eq]; exact num2_eq _ _)
/-- The three boxes lie. -/
structure Sec (w W : World) (cx : Array Value) (a0 a1 b0 b1 : Int) : Prop where
  x : W.heap[w.heap.size]? = some (.cells cx 25 (0, 0))
  a : W.heap[w.heap.size + 1]? = some (.cells #[.int .i64 a0, .int .i64 a1] 70 (0, 0))
  b : W.heap[w.heap.size + 1 + 1]? = some (.cells #[.int .i64 b0, .int .i64 b1] 70 (0, 0))
  up : Up w W
theorem Sec.to {w W W' : World} {cx : Array Value} {a0 a1 b0 b1 : Int} (h : Sec w W cx a0 a1 b0 b1) (hu : Up W W') : Sec w W' cx a0 a1 b0 b1 :=
  ⟨hu.heap h.x (fun h => h), hu.heap h.a (fun h => h), hu.heap h.b (fun h => h), h.up.trans hu⟩
theorem Sec.start (w : World) (cx : Array Value) (a0 a1 b0 b1 : Int) : Sec w (((w.alloc (.cells cx 25)).alloc (.cells #[.int .i64 a0, .int .i64 a1] 70)).alloc (.cells #[.int .i64 b0, .int .i64 b1] 70)) cx a0 a1 b0 b1 :=
  ⟨(Below.heap_alloc _ _ _ (by simp; omega)).trans ((Below.heap_alloc _ _ _ (by simp)).trans (heap_alloc_last _ _)),
   by refine (Below.heap_alloc _ _ _ (by simp)).trans ?_; have := heap_alloc_last (w.alloc (.cells cx 25)) (.cells #[.int .i64 a0, .int .i64 a1] 70); rwa [World.size_alloc] at this,
   by have := heap_alloc_last ((w.alloc (.cells cx 25)).alloc (.cells #[.int .i64 a0, .int .i64 a1] 70)) (.cells #[.int .i64 b0, .int .i64 b1] 70); rwa [World.size_alloc, World.size_alloc] at this,
   (((Chg.refl _ w).alloc _).alloc _).alloc _⟩
theorem up_drew (W : World) : Up W W.drew := (Chg.refl _ W).drew
set_option maxRecDepth 100000 in
set_option maxHeartbeats 4000000 in
theorem tagSecrets_any (hs : List Int) (a0 a1 b0 b1 : Int) (w : World) (lh : hs.length = 32) (hh : Bytes hs) (Ka0 : I64 a0) (Ka1 : I64 a1) (Kb0 : I64 b0) (Kb1 : I64 b1) (hla : Laid w) :
    Calls Tryd.prog 17 #[hashV hs, .agg #[.int .i64 a0, .int .i64 a1], .agg #[.int .i64 b0, .int .i64 b1]] w (TruePost w) := by
  have hl2 := hla.lt
  obtain ⟨cx, hcx, hux, _, _, hsz, _⟩ := hash_parts hs lh
  rw [hcx]
  have HCX := Lib.hid hcx
  have HUX := Lib.hid hux
  have HSZ := Lib.hid hsz
  have HH := Lib.hid hh
  have HLX := Lib.hid lh
  have HLA := Lib.hid hla
  clear hcx hux hsz hh lh hla
  go_enter Tryd.func17, Tryd.ntmps17
  go_wp2_with fail
  obtain ⟨W0, hW0⟩ : ∃ W0, W0 = ((w.alloc (.cells cx 25)).alloc (.cells #[.int .i64 a0, .int .i64 a1] 70)).alloc (.cells #[.int .i64 b0, .int .i64 b1] 70) := ⟨_, rfl⟩
  rw [← hW0]
  have HS : Hid (Sec w W0 cx a0 a1 b0 b1) := Lib.hid (by rw [hW0]; exact Sec.start w cx a0 a1 b0 b1)
  clear hW0
  have HS := Lib.hid (HS.out.to (up_drew W0))
  refine region_mono Up [fun v _ => v = .slice (some ⟨w.heap.size, 0, none⟩) 32 32,
      fun v _ => v = .func (.func 40) #[] #[],
      fun v _ => v = .pointer (some ⟨w.heap.size + 1, 0, none⟩),
      fun v _ => v = .int .i64 a0,
      fun v w' => SlB w' v (num4 a0),
      fun v _ => v = .func (.func 40) #[] #[],
      fun v _ => v = .pointer (some ⟨w.heap.size + 1, 1, none⟩),
      fun v _ => v = .int .i64 a1,
      fun v w' => SlB w' v (num4 a1),
      fun v w' => SlBB w' v [hs, num4 a0, num4 a1],
      fun v w' => SlB w' v (3 :: (hs ++ num4 a0 ++ num4 a1)) ∧ ∃ A c, v = .slice A 41 c] (by kernel_rfl) (by kernel_rfl) (Chg.refl _) (fun _ _ _ => Chg.trans) (by simp) ?_ ?_ ?_
  · simp only [List.forall_mem_cons]
    exact ⟨fun _ _ _ _ _ h => h, fun _ _ _ _ _ h => h, fun _ _ _ _ _ h => h, fun _ _ _ _ _ h => h, fun _ _ _ _ hu h => SlB.up h hu, fun _ _ _ _ _ h => h, fun _ _ _ _ _ h => h, fun _ _ _ _ _ h => h, fun _ _ _ _ hu h => SlB.up h hu, fun _ _ _ _ hu h => SlBB.up h hu, fun _ _ _ _ hu h => ⟨SlB.up h.1 hu, h.2⟩, by simp⟩
  · refine ⟨?_, ?_, ?_, ?_, ?_, ?_, ?_, ?_, ?_, ?_, ?_, trivial⟩
    · intro ρ w1 hw h0 hc hg hf hd
      have s3 : ρ (.tmp 3) = .pointer (some ⟨w.heap.size, 0, none⟩) := h0 3 (by kernel_rfl)
      refine ⟨fun _ => ?_, fun h => by cases h⟩
      clear h0 hg hd
      clear hf
      refine Gives.value (w' := w1) ?_ ⟨Chg.refl _ _, rfl⟩
      go_simp
    · intro ρ w1 hw h0 hc hg hf hd
      have s7 : ρ (.tmp 7) = .func (.func 40) #[] #[] := h0 7 (by kernel_rfl)
      refine ⟨fun _ => ?_, fun h => by cases h⟩
      clear h0 hg hd
      exact gives_move rfl ⟨Chg.refl _ _, s7⟩
    · intro ρ w1 hw h0 hc hg hf hd
      have s4 : ρ (.tmp 4) = .pointer (some ⟨w.heap.size + 1, 0, none⟩) := h0 4 (by kernel_rfl)
      refine ⟨fun _ => ?_, fun h => by cases h⟩
      clear h0 hg hd
      clear hf
      refine Gives.value (w' := w1) ?_ ⟨Chg.refl _ _, rfl⟩
      go_simp
    · intro ρ w1 hw h0 hc hg hf hd
      have d2 := hd ⟨2, .data⟩ (by simp) rfl _ _ _ rfl rfl rfl
      refine ⟨fun _ => ?_, fun h => by cases h⟩
      clear h0 hg hd
      clear hc hf
      have c0 := cell_of_row w1 (w.heap.size + 1) 0 _ _ _ (hw.heap HS.out.a (fun h => h))
      refine Gives.value (w' := w1) ?_ ⟨Chg.refl _ _, rfl⟩
      go_simp
    · intro ρ w1 hw h0 hc hg hf hd
      have d1 := hd ⟨1, .data⟩ (by simp) rfl _ _ _ rfl rfl rfl
      have d3 := hd ⟨3, .data⟩ (by simp) rfl _ _ _ rfl rfl rfl
      refine ⟨fun _ => ?_, fun h => by cases h⟩
      clear h0 hg hd
      refine gives_call_value rfl d1 Tryd.func40 rfl (by kernel_rfl) (args := #[.int .i64 a0, .int .i64 4]) (by simp [hc, d3]) ((refNumber4_any a0 w1 Ka0.1 Ka0.2).mono ?_)
      rintro e w2 ⟨A, c, rfl, ho, hb⟩
      exact ⟨_, rfl, up_below hb, own_src ho⟩
    · intro ρ w1 hw h0 hc hg hf hd
      have s7 : ρ (.tmp 7) = .func (.func 40) #[] #[] := h0 7 (by kernel_rfl)
      refine ⟨fun _ => ?_, fun h => by cases h⟩
      clear h0 hg hd
      exact gives_move rfl ⟨Chg.refl _ _, s7⟩
    · intro ρ w1 hw h0 hc hg hf hd
      have s4 : ρ (.tmp 4) = .pointer (some ⟨w.heap.size + 1, 0, none⟩) := h0 4 (by kernel_rfl)
      refine ⟨fun _ => ?_, fun h => by cases h⟩
      clear h0 hg hd
      clear hf
      refine Gives.value (w' := w1) ?_ ⟨Chg.refl _ _, rfl⟩
      go_simp
    · intro ρ w1 hw h0 hc hg hf hd
      have d6 := hd ⟨6, .data⟩ (by simp) rfl _ _ _ rfl rfl rfl
      refine ⟨fun _ => ?_, fun h => by cases h⟩
      clear h0 hg hd
      clear hc hf
      have c0 := cell_of_row w1 (w.heap.size + 1) 1 _ _ _ (hw.heap HS.out.a (fun h => h))
      refine Gives.value (w' := w1) ?_ ⟨Chg.refl _ _, rfl⟩
      go_simp
    · intro ρ w1 hw h0 hc hg hf hd
      have d5 := hd ⟨5, .data⟩ (by simp) rfl _ _ _ rfl rfl rfl
      have d7 := hd ⟨7, .data⟩ (by simp) rfl _ _ _ rfl rfl rfl
      refine ⟨fun _ => ?_, fun h => by cases h⟩
      clear h0 hg hd
      refine gives_call_value rfl d5 Tryd.func40 rfl (by kernel_rfl) (args := #[.int .i64 a1, .int .i64 4]) (by simp [hc, d7]) ((refNumber4_any a1 w1 Ka1.1 Ka1.2).mono ?_)
      rintro e w2 ⟨A, c, rfl, ho, hb⟩
      exact ⟨_, rfl, up_below hb, own_src ho⟩
    · intro ρ w1 hw h0 hc hg hf hd
      have d0 := hd ⟨0, .data⟩ (by simp) rfl _ _ _ rfl rfl rfl
      have d4 := hd ⟨4, .data⟩ (by simp) rfl _ _ _ rfl rfl rfl
      have d8 := hd ⟨8, .data⟩ (by simp) rfl _ _ _ rfl rfl rfl
      refine ⟨fun _ => ?_, fun h => by cases h⟩
      clear h0 hg hd
      clear hc hf
      have hs := rows3 w1 _ _ _ hs (num4 a0) (num4 a1) (row_src' HUX.out (hw.heap HS.out.x (fun h => h)) HLX.out) HH.out d4 (num4_bytes a0) d8 (num4_bytes a1)
      obtain ⟨B2, c2, e2, _⟩ := d4.shape
      obtain ⟨B4, c4, e4, _⟩ := d8.shape
      rw [e2, e4] at hs
      clear d4 d8
      refine Gives.value ?_ ⟨(Chg.refl _ w1).alloc _, hs⟩
      clear hs
      go_simp
    · intro ρ w1 hw h0 hc hg hf hd
      have d9 := hd ⟨9, .data⟩ (by simp) rfl _ _ _ rfl rfl rfl
      refine ⟨fun _ => ?_, fun h => by cases h⟩
      clear h0 hg hd
      refine gives_call rfl hf Tryd.func49 rfl (by kernel_rfl) (args := #[.int .i64 3, ρ (.tmp 23)]) (by simp [hc]) ((input_any 3 _ _ (hs ++ num4 a0 ++ num4 a1) w1 d9 (by simp) (by simp [HLX.out, num4])).mono ?_)
      rintro e w2 ⟨A, c, rfl, ho, hb⟩
      have hlen : 1 + (hs ++ num4 a0 ++ num4 a1).length = 41 := by simp [HLX.out, num4]
      rw [hlen] at ho ⊢
      exact ⟨_, rfl, up_below hb, own_src ho, A, c, rfl⟩
  · intro vs w2 hw hr
    have h10 := hr 10 _ rfl
    clear hr
    dsimp only [putsL, restL]
    simp only [Act.put, List.setIfInBounds_toArray, List.set_cons_zero, List.set_cons_succ]
    obtain ⟨sx, Ax, kx, ex⟩ := h10
    rw [ex] at sx ⊢
    have Sx := Lib.hid sx
    have HS := Lib.hid (HS.out.to hw)
    have HUx : Hid (Up W0 w2) := Lib.hid ((Chg.refl (fun _ => False) W0).drew.trans hw)
    clear hw sx ex
    rename World => Wx
    go_wp2_with fail
    have HS := Lib.hid (HS.out.to (up_drew Wx))
    refine region_mono Up [fun v _ => v = .slice (some ⟨w.heap.size, 0, none⟩) 32 32,
        fun v _ => v = .func (.func 40) #[] #[],
        fun v _ => v = .pointer (some ⟨w.heap.size + 1 + 1, 0, none⟩),
        fun v _ => v = .int .i64 b0,
        fun v w' => SlB w' v (num4 b0),
        fun v _ => v = .func (.func 40) #[] #[],
        fun v _ => v = .pointer (some ⟨w.heap.size + 1 + 1, 1, none⟩),
        fun v _ => v = .int .i64 b1,
        fun v w' => SlB w' v (num4 b1),
        fun v w' => SlBB w' v [hs, num4 b0, num4 b1],
        fun v w' => SlB w' v (3 :: (hs ++ num4 b0 ++ num4 b1)) ∧ ∃ A c, v = .slice A 41 c] (by kernel_rfl) (by kernel_rfl) (Chg.refl _) (fun _ _ _ => Chg.trans) (by simp) ?_ ?_ ?_
    · simp only [List.forall_mem_cons]
      exact ⟨fun _ _ _ _ _ h => h, fun _ _ _ _ _ h => h, fun _ _ _ _ _ h => h, fun _ _ _ _ _ h => h, fun _ _ _ _ hu h => SlB.up h hu, fun _ _ _ _ _ h => h, fun _ _ _ _ _ h => h, fun _ _ _ _ _ h => h, fun _ _ _ _ hu h => SlB.up h hu, fun _ _ _ _ hu h => SlBB.up h hu, fun _ _ _ _ hu h => ⟨SlB.up h.1 hu, h.2⟩, by simp⟩
    · refine ⟨?_, ?_, ?_, ?_, ?_, ?_, ?_, ?_, ?_, ?_, ?_, trivial⟩
      · intro ρ w1 hw h0 hc hg hf hd
        have s3 : ρ (.tmp 3) = .pointer (some ⟨w.heap.size, 0, none⟩) := h0 3 (by kernel_rfl)
        refine ⟨fun _ => ?_, fun h => by cases h⟩
        clear h0 hg hd
        clear hf
        refine Gives.value (w' := w1) ?_ ⟨Chg.refl _ _, rfl⟩
        go_simp
      · intro ρ w1 hw h0 hc hg hf hd
        have s7 : ρ (.tmp 7) = .func (.func 40) #[] #[] := h0 7 (by kernel_rfl)
        refine ⟨fun _ => ?_, fun h => by cases h⟩
        clear h0 hg hd
        exact gives_move rfl ⟨Chg.refl _ _, s7⟩
      · intro ρ w1 hw h0 hc hg hf hd
        have s5 : ρ (.tmp 5) = .pointer (some ⟨w.heap.size + 1 + 1, 0, none⟩) := h0 5 (by kernel_rfl)
        refine ⟨fun _ => ?_, fun h => by cases h⟩
        clear h0 hg hd
        clear hf
        refine Gives.value (w' := w1) ?_ ⟨Chg.refl _ _, rfl⟩
        go_simp
      · intro ρ w1 hw h0 hc hg hf hd
        have d2 := hd ⟨2, .data⟩ (by simp) rfl _ _ _ rfl rfl rfl
        refine ⟨fun _ => ?_, fun h => by cases h⟩
        clear h0 hg hd
        clear hc hf
        have c0 := cell_of_row w1 (w.heap.size + 1 + 1) 0 _ _ _ (hw.heap HS.out.b (fun h => h))
        refine Gives.value (w' := w1) ?_ ⟨Chg.refl _ _, rfl⟩
        go_simp
      · intro ρ w1 hw h0 hc hg hf hd
        have d1 := hd ⟨1, .data⟩ (by simp) rfl _ _ _ rfl rfl rfl
        have d3 := hd ⟨3, .data⟩ (by simp) rfl _ _ _ rfl rfl rfl
        refine ⟨fun _ => ?_, fun h => by cases h⟩
        clear h0 hg hd
        refine gives_call_value rfl d1 Tryd.func40 rfl (by kernel_rfl) (args := #[.int .i64 b0, .int .i64 4]) (by simp [hc, d3]) ((refNumber4_any b0 w1 Kb0.1 Kb0.2).mono ?_)
        rintro e w2 ⟨A, c, rfl, ho, hb⟩
        exact ⟨_, rfl, up_below hb, own_src ho⟩
      · intro ρ w1 hw h0 hc hg hf hd
        have s7 : ρ (.tmp 7) = .func (.func 40) #[] #[] := h0 7 (by kernel_rfl)
        refine ⟨fun _ => ?_, fun h => by cases h⟩
        clear h0 hg hd
        exact gives_move rfl ⟨Chg.refl _ _, s7⟩
      · intro ρ w1 hw h0 hc hg hf hd
        have s5 : ρ (.tmp 5) = .pointer (some ⟨w.heap.size + 1 + 1, 0, none⟩) := h0 5 (by kernel_rfl)
        refine ⟨fun _ => ?_, fun h => by cases h⟩
        clear h0 hg hd
        clear hf
        refine Gives.value (w' := w1) ?_ ⟨Chg.refl _ _, rfl⟩
        go_simp
      · intro ρ w1 hw h0 hc hg hf hd
        have d6 := hd ⟨6, .data⟩ (by simp) rfl _ _ _ rfl rfl rfl
        refine ⟨fun _ => ?_, fun h => by cases h⟩
        clear h0 hg hd
        clear hc hf
        have c0 := cell_of_row w1 (w.heap.size + 1 + 1) 1 _ _ _ (hw.heap HS.out.b (fun h => h))
        refine Gives.value (w' := w1) ?_ ⟨Chg.refl _ _, rfl⟩
        go_simp
      · intro ρ w1 hw h0 hc hg hf hd
        have d5 := hd ⟨5, .data⟩ (by simp) rfl _ _ _ rfl rfl rfl
        have d7 := hd ⟨7, .data⟩ (by simp) rfl _ _ _ rfl rfl rfl
        refine ⟨fun _ => ?_, fun h => by cases h⟩
        clear h0 hg hd
        refine gives_call_value rfl d5 Tryd.func40 rfl (by kernel_rfl) (args := #[.int .i64 b1, .int .i64 4]) (by simp [hc, d7]) ((refNumber4_any b1 w1 Kb1.1 Kb1.2).mono ?_)
        rintro e w2 ⟨A, c, rfl, ho, hb⟩
        exact ⟨_, rfl, up_below hb, own_src ho⟩
      · intro ρ w1 hw h0 hc hg hf hd
        have d0 := hd ⟨0, .data⟩ (by simp) rfl _ _ _ rfl rfl rfl
        have d4 := hd ⟨4, .data⟩ (by simp) rfl _ _ _ rfl rfl rfl
        have d8 := hd ⟨8, .data⟩ (by simp) rfl _ _ _ rfl rfl rfl
        refine ⟨fun _ => ?_, fun h => by cases h⟩
        clear h0 hg hd
        clear hc hf
        have hs := rows3 w1 _ _ _ hs (num4 b0) (num4 b1) (row_src' HUX.out (hw.heap HS.out.x (fun h => h)) HLX.out) HH.out d4 (num4_bytes b0) d8 (num4_bytes b1)
        obtain ⟨B2, c2, e2, _⟩ := d4.shape
        obtain ⟨B4, c4, e4, _⟩ := d8.shape
        rw [e2, e4] at hs
        clear d4 d8
        refine Gives.value ?_ ⟨(Chg.refl _ w1).alloc _, hs⟩
        clear hs
        go_simp
      · intro ρ w1 hw h0 hc hg hf hd
        have d9 := hd ⟨9, .data⟩ (by simp) rfl _ _ _ rfl rfl rfl
        refine ⟨fun _ => ?_, fun h => by cases h⟩
        clear h0 hg hd
        refine gives_call rfl hf Tryd.func49 rfl (by kernel_rfl) (args := #[.int .i64 3, ρ (.tmp 34)]) (by simp [hc]) ((input_any 3 _ _ (hs ++ num4 b0 ++ num4 b1) w1 d9 (by simp) (by simp [HLX.out, num4])).mono ?_)
        rintro e w2 ⟨A, c, rfl, ho, hb⟩
        have hlen : 1 + (hs ++ num4 b0 ++ num4 b1).length = 41 := by simp [HLX.out, num4]
        rw [hlen] at ho ⊢
        exact ⟨_, rfl, up_below hb, own_src ho, A, c, rfl⟩
    · intro vs w2 hw hr
      have h10 := hr 10 _ rfl
      clear hr
      dsimp only [putsL, restL]
      simp only [Act.put, List.setIfInBounds_toArray, List.set_cons_zero, List.set_cons_succ]
      obtain ⟨sy, Ay, ky, ey⟩ := h10
      rw [ey] at sy ⊢
      have Sy := Lib.hid sy
      have HS := Lib.hid (HS.out.to hw)
      have HUy : Hid (Up Wx w2) := Lib.hid ((Chg.refl (fun _ => False) Wx).drew.trans hw)
      clear hw sy ey
      rename World => Wy
      have Sx := Lib.hid (Sx.out.up HUy.out)
      have ca0 : Wy.cell? ⟨w.heap.size + 1, 0, none⟩ = some (.int .i64 a0) := cell_of_row Wy _ 0 _ _ _ HS.out.a
      have ca1 : Wy.cell? ⟨w.heap.size + 1, 1, none⟩ = some (.int .i64 a1) := cell_of_row Wy _ 1 _ _ _ HS.out.a
      have cb0 : Wy.cell? ⟨w.heap.size + 1 + 1, 0, none⟩ = some (.int .i64 b0) := cell_of_row Wy _ 0 _ _ _ HS.out.b
      have cb1 : Wy.cell? ⟨w.heap.size + 1 + 1, 1, none⟩ = some (.int .i64 b1) := cell_of_row Wy _ 1 _ _ _ HS.out.b
      have BA0 : Hid (Bytes (num4 a0)) := Lib.hid (num4_bytes a0)
      have BA1 : Hid (Bytes (num4 a1)) := Lib.hid (num4_bytes a1)
      have BB0 : Hid (Bytes (num4 b0)) := Lib.hid (num4_bytes b0)
      have BB1 : Hid (Bytes (num4 b1)) := Lib.hid (num4_bytes b1)
      have tx := sl_string Sx.out
      have ty := sl_string Sy.out
      have tq := str_eq (3 :: (hs ++ num4 a0 ++ num4 a1)) (3 :: (hs ++ num4 b0 ++ num4 b1)) (Bytes.cons (by omega) ((HH.out.append BA0.out).append BA1.out)) (Bytes.cons (by omega) ((HH.out.append BB0.out).append BB1.out))
      rw [pair4_eq] at tq
      obtain ⟨zx, hzx⟩ : ∃ z, strOfNums (3 :: (hs ++ num4 a0 ++ num4 a1)) = z := ⟨_, rfl⟩
      obtain ⟨zy, hzy⟩ : ∃ z, strOfNums (3 :: (hs ++ num4 b0 ++ num4 b1)) = z := ⟨_, rfl⟩
      rw [hzx] at tx tq
      rw [hzy] at ty tq
      clear hzx hzy
      clear HUx HUy
      by_cases hA : a0 % 4294967296 = b0 % 4294967296
      all_goals
        first
          | (have hA' : (a0 % 4294967296 == b0 % 4294967296) = true := by simpa using hA
             rw [hA', Bool.true_and] at tq
             clear hA')
          | (have hA' : (a0 % 4294967296 == b0 % 4294967296) = false := by simpa using hA
             rw [hA', Bool.false_and] at tq
             clear hA')
        go_wp2_with (refine want_load_row rfl 25 (.tmp 3) rfl w.heap.size (by rfl) 25 cx (0, 0) _ HS.out.x Tryd.underlying25 rfl HSZ.out ?_)
        clear tx ty tq hA ca0 ca1 cb0 cb1 BA0 BA1 BB0 BB1
        have hcall := secret_any hs a0 a1 Wy HLX.out HH.out Ka0.1 Ka0.2 Ka1.1 Ka1.2 (HLA.out.up HS.out.up)
        rw [HCX.out] at hcall
        obtain ⟨zl, hzl⟩ : ∃ l, (3 :: (hs ++ num4 a0 ++ num4 a1)) = l := ⟨_, rfl⟩
        rw [hzl] at hcall
        have HZL := Lib.hid hzl
        clear hzl
        refine hcall.mono ?_
        clear hcall
        rintro e W4 ⟨rfl, b4⟩
        have HS := Lib.hid (HS.out.to (up_below b4))
        have Sx := Lib.hid (Sx.out.up (up_below b4))
        have Sy := Lib.hid (Sy.out.up (up_below b4))
        clear b4
        go_wp2_with fail
        have hsum := shaSum_any (3 :: (hs ++ num4 a0 ++ num4 a1)) _ W4 Sx.out (Bytes.cons (by omega) ((HH.out.append (num4_bytes a0)).append (num4_bytes a1))) (by simp [HLX.out, num4]) (HLA.out.up HS.out.up)
        rw [HZL.out] at hsum
        refine hsum.mono ?_
        clear hsum
        rintro e W5 ⟨rfl, b5⟩
        have HS := Lib.hid (HS.out.to (up_below b5))
        have Sx := Lib.hid (Sx.out.up (up_below b5))
        have Sy := Lib.hid (Sy.out.up (up_below b5))
        clear b5
        have q1 := neq25 (shaI zl) (shaI zl) (hash_size _) (hash_size _)
        have q2 := fun op x y W => guard25 op x y (shaI zl) (shaI zl) W
        rw [show (shaI zl == shaI zl) = true by simp] at q1
        have cb0 : W5.cell? ⟨w.heap.size + 1 + 1, 0, none⟩ = some (.int .i64 b0) := cell_of_row W5 _ 0 _ _ _ HS.out.b
        have cb1 : W5.cell? ⟨w.heap.size + 1 + 1, 1, none⟩ = some (.int .i64 b1) := cell_of_row W5 _ 1 _ _ _ HS.out.b
        go_wp2_with (refine want_load_row rfl 25 (.tmp 3) rfl w.heap.size (by rfl) 25 cx (0, 0) _ HS.out.x Tryd.underlying25 rfl HSZ.out ?_)
        clear q1 q2 cb0 cb1
        have hcall := secret_any hs b0 b1 W5 HLX.out HH.out Kb0.1 Kb0.2 Kb1.1 Kb1.2 (HLA.out.up HS.out.up)
        rw [HCX.out] at hcall
        obtain ⟨zl, hzl⟩ : ∃ l, (3 :: (hs ++ num4 b0 ++ num4 b1)) = l := ⟨_, rfl⟩
        rw [hzl] at hcall
        have HZL := Lib.hid hzl
        clear hzl
        refine hcall.mono ?_
        clear hcall
        rintro e W6 ⟨rfl, b4⟩
        have HS := Lib.hid (HS.out.to (up_below b4))
        have Sx := Lib.hid (Sx.out.up (up_below b4))
        have Sy := Lib.hid (Sy.out.up (up_below b4))
        clear b4
        go_wp2_with fail
        have hsum := shaSum_any (3 :: (hs ++ num4 b0 ++ num4 b1)) _ W6 Sy.out (Bytes.cons (by omega) ((HH.out.append (num4_bytes b0)).append (num4_bytes b1))) (by simp [HLX.out, num4]) (HLA.out.up HS.out.up)
        rw [HZL.out] at hsum
        refine hsum.mono ?_
        clear hsum
        rintro e W7 ⟨rfl, b5⟩
        have HS := Lib.hid (HS.out.to (up_below b5))
        have Sx := Lib.hid (Sx.out.up (up_below b5))
        have Sy := Lib.hid (Sy.out.up (up_below b5))
        clear b5
        have q1 := neq25 (shaI zl) (shaI zl) (hash_size _) (hash_size _)
        have q2 := fun op x y W => guard25 op x y (shaI zl) (shaI zl) W
        rw [show (shaI zl == shaI zl) = true by simp] at q1
        go_wp2_with fail
        clear q1 q2 Sx Sy
        have HS := Lib.hid (HS.out.to (up_drew W7))
        refine region_mono Up [fun v _ => v = .slice (some ⟨w.heap.size, 0, none⟩) 32 32,
            fun v _ => v = .func (.func 40) #[] #[],
            fun v _ => v = .pointer (some ⟨w.heap.size + 1, 0, none⟩),
            fun v _ => v = .int .i64 a0,
            fun v w' => SlB w' v (num2 a0),
            fun v _ => v = .func (.func 40) #[] #[],
            fun v _ => v = .pointer (some ⟨w.heap.size + 1, 1, none⟩),
            fun v _ => v = .int .i64 a1,
            fun v w' => SlB w' v (num2 a1),
            fun v w' => SlBB w' v [hs, num2 a0, num2 a1],
            fun v w' => SlB w' v (2 :: (hs ++ num2 a0 ++ num2 a1)) ∧ ∃ A c, v = .slice A 37 c] (by kernel_rfl) (by kernel_rfl) (Chg.refl _) (fun _ _ _ => Chg.trans) (by simp) ?_ ?_ ?_
        · simp only [List.forall_mem_cons]
          exact ⟨fun _ _ _ _ _ h => h, fun _ _ _ _ _ h => h, fun _ _ _ _ _ h => h, fun _ _ _ _ _ h => h, fun _ _ _ _ hu h => SlB.up h hu, fun _ _ _ _ _ h => h, fun _ _ _ _ _ h => h, fun _ _ _ _ _ h => h, fun _ _ _ _ hu h => SlB.up h hu, fun _ _ _ _ hu h => SlBB.up h hu, fun _ _ _ _ hu h => ⟨SlB.up h.1 hu, h.2⟩, by simp⟩
        · refine ⟨?_, ?_, ?_, ?_, ?_, ?_, ?_, ?_, ?_, ?_, ?_, trivial⟩
          · intro ρ w1 hw h0 hc hg hf hd
            have s3 : ρ (.tmp 3) = .pointer (some ⟨w.heap.size, 0, none⟩) := h0 3 (by kernel_rfl)
            refine ⟨fun _ => ?_, fun h => by cases h⟩
            clear h0 hg hd
            clear hf
            refine Gives.value (w' := w1) ?_ ⟨Chg.refl _ _, rfl⟩
            go_simp
          · intro ρ w1 hw h0 hc hg hf hd
            have s7 : ρ (.tmp 7) = .func (.func 40) #[] #[] := h0 7 (by kernel_rfl)
            refine ⟨fun _ => ?_, fun h => by cases h⟩
            clear h0 hg hd
            exact gives_move rfl ⟨Chg.refl _ _, s7⟩
          · intro ρ w1 hw h0 hc hg hf hd
            have s4 : ρ (.tmp 4) = .pointer (some ⟨w.heap.size + 1, 0, none⟩) := h0 4 (by kernel_rfl)
            refine ⟨fun _ => ?_, fun h => by cases h⟩
            clear h0 hg hd
            clear hf
            refine Gives.value (w' := w1) ?_ ⟨Chg.refl _ _, rfl⟩
            go_simp
          · intro ρ w1 hw h0 hc hg hf hd
            have d2 := hd ⟨2, .data⟩ (by simp) rfl _ _ _ rfl rfl rfl
            refine ⟨fun _ => ?_, fun h => by cases h⟩
            clear h0 hg hd
            clear hc hf
            have c0 := cell_of_row w1 (w.heap.size + 1) 0 _ _ _ (hw.heap HS.out.a (fun h => h))
            refine Gives.value (w' := w1) ?_ ⟨Chg.refl _ _, rfl⟩
            go_simp
          · intro ρ w1 hw h0 hc hg hf hd
            have d1 := hd ⟨1, .data⟩ (by simp) rfl _ _ _ rfl rfl rfl
            have d3 := hd ⟨3, .data⟩ (by simp) rfl _ _ _ rfl rfl rfl
            refine ⟨fun _ => ?_, fun h => by cases h⟩
            clear h0 hg hd
            refine gives_call_value rfl d1 Tryd.func40 rfl (by kernel_rfl) (args := #[.int .i64 a0, .int .i64 2]) (by simp [hc, d3]) ((refNumber2_any a0 w1 Ka0.1 Ka0.2).mono ?_)
            rintro e w2 ⟨A, c, rfl, ho, hb⟩
            exact ⟨_, rfl, up_below hb, own_src ho⟩
          · intro ρ w1 hw h0 hc hg hf hd
            have s7 : ρ (.tmp 7) = .func (.func 40) #[] #[] := h0 7 (by kernel_rfl)
            refine ⟨fun _ => ?_, fun h => by cases h⟩
            clear h0 hg hd
            exact gives_move rfl ⟨Chg.refl _ _, s7⟩
          · intro ρ w1 hw h0 hc hg hf hd
            have s4 : ρ (.tmp 4) = .pointer (some ⟨w.heap.size + 1, 0, none⟩) := h0 4 (by kernel_rfl)
            refine ⟨fun _ => ?_, fun h => by cases h⟩
            clear h0 hg hd
            clear hf
            refine Gives.value (w' := w1) ?_ ⟨Chg.refl _ _, rfl⟩
            go_simp
          · intro ρ w1 hw h0 hc hg hf hd
            have d6 := hd ⟨6, .data⟩ (by simp) rfl _ _ _ rfl rfl rfl
            refine ⟨fun _ => ?_, fun h => by cases h⟩
            clear h0 hg hd
            clear hc hf
            have c0 := cell_of_row w1 (w.heap.size + 1) 1 _ _ _ (hw.heap HS.out.a (fun h => h))
            refine Gives.value (w' := w1) ?_ ⟨Chg.refl _ _, rfl⟩
            go_simp
          · intro ρ w1 hw h0 hc hg hf hd
            have d5 := hd ⟨5, .data⟩ (by simp) rfl _ _ _ rfl rfl rfl
            have d7 := hd ⟨7, .data⟩ (by simp) rfl _ _ _ rfl rfl rfl
            refine ⟨fun _ => ?_, fun h => by cases h⟩
            clear h0 hg hd
            refine gives_call_value rfl d5 Tryd.func40 rfl (by kernel_rfl) (args := #[.int .i64 a1, .int .i64 2]) (by simp [hc, d7]) ((refNumber2_any a1 w1 Ka1.1 Ka1.2).mono ?_)
            rintro e w2 ⟨A, c, rfl, ho, hb⟩
            exact ⟨_, rfl, up_below hb, own_src ho⟩
          · intro ρ w1 hw h0 hc hg hf hd
            have d0 := hd ⟨0, .data⟩ (by simp) rfl _ _ _ rfl rfl rfl
            have d4 := hd ⟨4, .data⟩ (by simp) rfl _ _ _ rfl rfl rfl
            have d8 := hd ⟨8, .data⟩ (by simp) rfl _ _ _ rfl rfl rfl
            refine ⟨fun _ => ?_, fun h => by cases h⟩
            clear h0 hg hd
            clear hc hf
            have hs := rows3 w1 _ _ _ hs (num2 a0) (num2 a1) (row_src' HUX.out (hw.heap HS.out.x (fun h => h)) HLX.out) HH.out d4 (num2_bytes a0) d8 (num2_bytes a1)
            obtain ⟨B2, c2, e2, _⟩ := d4.shape
            obtain ⟨B4, c4, e4, _⟩ := d8.shape
            rw [e2, e4] at hs
            clear d4 d8
            refine Gives.value ?_ ⟨(Chg.refl _ w1).alloc _, hs⟩
            clear hs
            go_simp
          · intro ρ w1 hw h0 hc hg hf hd
            have d9 := hd ⟨9, .data⟩ (by simp) rfl _ _ _ rfl rfl rfl
            refine ⟨fun _ => ?_, fun h => by cases h⟩
            clear h0 hg hd
            refine gives_call rfl hf Tryd.func49 rfl (by kernel_rfl) (args := #[.int .i64 2, ρ (.tmp 90)]) (by simp [hc]) ((input_any 2 _ _ (hs ++ num2 a0 ++ num2 a1) w1 d9 (by simp) (by simp [HLX.out, num2])).mono ?_)
            rintro e w2 ⟨A, c, rfl, ho, hb⟩
            have hlen : 1 + (hs ++ num2 a0 ++ num2 a1).length = 37 := by simp [HLX.out, num2]
            rw [hlen] at ho ⊢
            exact ⟨_, rfl, up_below hb, own_src ho, A, c, rfl⟩
        · intro vs w2 hw hr
          have h10 := hr 10 _ rfl
          clear hr
          dsimp only [putsL, restL]
          simp only [Act.put, List.setIfInBounds_toArray, List.set_cons_zero, List.set_cons_succ]
          obtain ⟨sx, Ax, kx, ex⟩ := h10
          rw [ex] at sx ⊢
          have Sx := Lib.hid sx
          have HS := Lib.hid (HS.out.to hw)
          have HUx : Hid (Up W7 w2) := Lib.hid ((Chg.refl (fun _ => False) W7).drew.trans hw)
          clear hw sx ex
          rename World => Wx
          go_wp2_with fail
          have HS := Lib.hid (HS.out.to (up_drew Wx))
          refine region_mono Up [fun v _ => v = .slice (some ⟨w.heap.size, 0, none⟩) 32 32,
              fun v _ => v = .func (.func 40) #[] #[],
              fun v _ => v = .pointer (some ⟨w.heap.size + 1 + 1, 0, none⟩),
              fun v _ => v = .int .i64 b0,
              fun v w' => SlB w' v (num2 b0),
              fun v _ => v = .func (.func 40) #[] #[],
              fun v _ => v = .pointer (some ⟨w.heap.size + 1 + 1, 1, none⟩),
              fun v _ => v = .int .i64 b1,
              fun v w' => SlB w' v (num2 b1),
              fun v w' => SlBB w' v [hs, num2 b0, num2 b1],
              fun v w' => SlB w' v (2 :: (hs ++ num2 b0 ++ num2 b1)) ∧ ∃ A c, v = .slice A 37 c] (by kernel_rfl) (by kernel_rfl) (Chg.refl _) (fun _ _ _ => Chg.trans) (by simp) ?_ ?_ ?_
          · simp only [List.forall_mem_cons]
            exact ⟨fun _ _ _ _ _ h => h, fun _ _ _ _ _ h => h, fun _ _ _ _ _ h => h, fun _ _ _ _ _ h => h, fun _ _ _ _ hu h => SlB.up h hu, fun _ _ _ _ _ h => h, fun _ _ _ _ _ h => h, fun _ _ _ _ _ h => h, fun _ _ _ _ hu h => SlB.up h hu, fun _ _ _ _ hu h => SlBB.up h hu, fun _ _ _ _ hu h => ⟨SlB.up h.1 hu, h.2⟩, by simp⟩
          · refine ⟨?_, ?_, ?_, ?_, ?_, ?_, ?_, ?_, ?_, ?_, ?_, trivial⟩
            · intro ρ w1 hw h0 hc hg hf hd
              have s3 : ρ (.tmp 3) = .pointer (some ⟨w.heap.size, 0, none⟩) := h0 3 (by kernel_rfl)
              refine ⟨fun _ => ?_, fun h => by cases h⟩
              clear h0 hg hd
              clear hf
              refine Gives.value (w' := w1) ?_ ⟨Chg.refl _ _, rfl⟩
              go_simp
            · intro ρ w1 hw h0 hc hg hf hd
              have s7 : ρ (.tmp 7) = .func (.func 40) #[] #[] := h0 7 (by kernel_rfl)
              refine ⟨fun _ => ?_, fun h => by cases h⟩
              clear h0 hg hd
              exact gives_move rfl ⟨Chg.refl _ _, s7⟩
            · intro ρ w1 hw h0 hc hg hf hd
              have s5 : ρ (.tmp 5) = .pointer (some ⟨w.heap.size + 1 + 1, 0, none⟩) := h0 5 (by kernel_rfl)
              refine ⟨fun _ => ?_, fun h => by cases h⟩
              clear h0 hg hd
              clear hf
              refine Gives.value (w' := w1) ?_ ⟨Chg.refl _ _, rfl⟩
              go_simp
            · intro ρ w1 hw h0 hc hg hf hd
              have d2 := hd ⟨2, .data⟩ (by simp) rfl _ _ _ rfl rfl rfl
              refine ⟨fun _ => ?_, fun h => by cases h⟩
              clear h0 hg hd
              clear hc hf
              have c0 := cell_of_row w1 (w.heap.size + 1 + 1) 0 _ _ _ (hw.heap HS.out.b (fun h => h))
              refine Gives.value (w' := w1) ?_ ⟨Chg.refl _ _, rfl⟩
              go_simp
            · intro ρ w1 hw h0 hc hg hf hd
              have d1 := hd ⟨1, .data⟩ (by simp) rfl _ _ _ rfl rfl rfl
              have d3 := hd ⟨3, .data⟩ (by simp) rfl _ _ _ rfl rfl rfl
              refine ⟨fun _ => ?_, fun h => by cases h⟩
              clear h0 hg hd
              refine gives_call_value rfl d1 Tryd.func40 rfl (by kernel_rfl) (args := #[.int .i64 b0, .int .i64 2]) (by simp [hc, d3]) ((refNumber2_any b0 w1 Kb0.1 Kb0.2).mono ?_)
              rintro e w2 ⟨A, c, rfl, ho, hb⟩
              exact ⟨_, rfl, up_below hb, own_src ho⟩
            · intro ρ w1 hw h0 hc hg hf hd
              have s7 : ρ (.tmp 7) = .func (.func 40) #[] #[] := h0 7 (by kernel_rfl)
              refine ⟨fun _ => ?_, fun h => by cases h⟩
              clear h0 hg hd
              exact gives_move rfl ⟨Chg.refl _ _, s7⟩
            · intro ρ w1 hw h0 hc hg hf hd
              have s5 : ρ (.tmp 5) = .pointer (some ⟨w.heap.size + 1 + 1, 0, none⟩) := h0 5 (by kernel_rfl)
              refine ⟨fun _ => ?_, fun h => by cases h⟩
              clear h0 hg hd
              clear hf
              refine Gives.value (w' := w1) ?_ ⟨Chg.refl _ _, rfl⟩
              go_simp
            · intro ρ w1 hw h0 hc hg hf hd
              have d6 := hd ⟨6, .data⟩ (by simp) rfl _ _ _ rfl rfl rfl
              refine ⟨fun _ => ?_, fun h => by cases h⟩
              clear h0 hg hd
              clear hc hf
              have c0 := cell_of_row w1 (w.heap.size + 1 + 1) 1 _ _ _ (hw.heap HS.out.b (fun h => h))
              refine Gives.value (w' := w1) ?_ ⟨Chg.refl _ _, rfl⟩
              go_simp
            · intro ρ w1 hw h0 hc hg hf hd
              have d5 := hd ⟨5, .data⟩ (by simp) rfl _ _ _ rfl rfl rfl
              have d7 := hd ⟨7, .data⟩ (by simp) rfl _ _ _ rfl rfl rfl
              refine ⟨fun _ => ?_, fun h => by cases h⟩
              clear h0 hg hd
              refine gives_call_value rfl d5 Tryd.func40 rfl (by kernel_rfl) (args := #[.int .i64 b1, .int .i64 2]) (by simp [hc, d7]) ((refNumber2_any b1 w1 Kb1.1 Kb1.2).mono ?_)
              rintro e w2 ⟨A, c, rfl, ho, hb⟩
              exact ⟨_, rfl, up_below hb, own_src ho⟩
            · intro ρ w1 hw h0 hc hg hf hd
              have d0 := hd ⟨0, .data⟩ (by simp) rfl _ _ _ rfl rfl rfl
              have d4 := hd ⟨4, .data⟩ (by simp) rfl _ _ _ rfl rfl rfl
              have d8 := hd ⟨8, .data⟩ (by simp) rfl _ _ _ rfl rfl rfl
              refine ⟨fun _ => ?_, fun h => by cases h⟩
              clear h0 hg hd
              clear hc hf
              have hs := rows3 w1 _ _ _ hs (num2 b0) (num2 b1) (row_src' HUX.out (hw.heap HS.out.x (fun h => h)) HLX.out) HH.out d4 (num2_bytes b0) d8 (num2_bytes b1)
              obtain ⟨B2, c2, e2, _⟩ := d4.shape
              obtain ⟨B4, c4, e4, _⟩ := d8.shape
              rw [e2, e4] at hs
              clear d4 d8
              refine Gives.value ?_ ⟨(Chg.refl _ w1).alloc _, hs⟩
              clear hs
              go_simp
            · intro ρ w1 hw h0 hc hg hf hd
              have d9 := hd ⟨9, .data⟩ (by simp) rfl _ _ _ rfl rfl rfl
              refine ⟨fun _ => ?_, fun h => by cases h⟩
              clear h0 hg hd
              refine gives_call rfl hf Tryd.func49 rfl (by kernel_rfl) (args := #[.int .i64 2, ρ (.tmp 101)]) (by simp [hc]) ((input_any 2 _ _ (hs ++ num2 b0 ++ num2 b1) w1 d9 (by simp) (by simp [HLX.out, num2])).mono ?_)
              rintro e w2 ⟨A, c, rfl, ho, hb⟩
              have hlen : 1 + (hs ++ num2 b0 ++ num2 b1).length = 37 := by simp [HLX.out, num2]
              rw [hlen] at ho ⊢
              exact ⟨_, rfl, up_below hb, own_src ho, A, c, rfl⟩
          · intro vs w2 hw hr
            have h10 := hr 10 _ rfl
            clear hr
            dsimp only [putsL, restL]
            simp only [Act.put, List.setIfInBounds_toArray, List.set_cons_zero, List.set_cons_succ]
            obtain ⟨sy, Ay, ky, ey⟩ := h10
            rw [ey] at sy ⊢
            have Sy := Lib.hid sy
            have HS := Lib.hid (HS.out.to hw)
            have HUy : Hid (Up Wx w2) := Lib.hid ((Chg.refl (fun _ => False) Wx).drew.trans hw)
            clear hw sy ey
            rename World => Wy
            have Sx := Lib.hid (Sx.out.up HUy.out)
            have ca0 : Wy.cell? ⟨w.heap.size + 1, 0, none⟩ = some (.int .i64 a0) := cell_of_row Wy _ 0 _ _ _ HS.out.a
            have ca1 : Wy.cell? ⟨w.heap.size + 1, 1, none⟩ = some (.int .i64 a1) := cell_of_row Wy _ 1 _ _ _ HS.out.a
            have cb0 : Wy.cell? ⟨w.heap.size + 1 + 1, 0, none⟩ = some (.int .i64 b0) := cell_of_row Wy _ 0 _ _ _ HS.out.b
            have cb1 : Wy.cell? ⟨w.heap.size + 1 + 1, 1, none⟩ = some (.int .i64 b1) := cell_of_row Wy _ 1 _ _ _ HS.out.b
            have BA0 : Hid (Bytes (num2 a0)) := Lib.hid (num2_bytes a0)
            have BA1 : Hid (Bytes (num2 a1)) := Lib.hid (num2_bytes a1)
            have BB0 : Hid (Bytes (num2 b0)) := Lib.hid (num2_bytes b0)
            have BB1 : Hid (Bytes (num2 b1)) := Lib.hid (num2_bytes b1)
            have tx := sl_string Sx.out
            have ty := sl_string Sy.out
            have tq := str_eq (2 :: (hs ++ num2 a0 ++ num2 a1)) (2 :: (hs ++ num2 b0 ++ num2 b1)) (Bytes.cons (by omega) ((HH.out.append BA0.out).append BA1.out)) (Bytes.cons (by omega) ((HH.out.append BB0.out).append BB1.out))
            rw [pair2_eq] at tq
            obtain ⟨zx, hzx⟩ : ∃ z, strOfNums (2 :: (hs ++ num2 a0 ++ num2 a1)) = z := ⟨_, rfl⟩
            obtain ⟨zy, hzy⟩ : ∃ z, strOfNums (2 :: (hs ++ num2 b0 ++ num2 b1)) = z := ⟨_, rfl⟩
            rw [hzx] at tx tq
            rw [hzy] at ty tq
            clear hzx hzy
            clear HUx HUy
            have ua0 : IntKind.u16.wrap a0 = a0 % 65536 := by simp [IntKind.wrap, IntKind.bits, IntKind.signed]
            have ua1 : IntKind.u16.wrap a1 = a1 % 65536 := by simp [IntKind.wrap, IntKind.bits, IntKind.signed]
            have ub0 : IntKind.u16.wrap b0 = b0 % 65536 := by simp [IntKind.wrap, IntKind.bits, IntKind.signed]
            have ub1 : IntKind.u16.wrap b1 = b1 % 65536 := by simp [IntKind.wrap, IntKind.bits, IntKind.signed]
            by_cases hA : a0 % 65536 = b0 % 65536
            all_goals
              first
                | (have hA' : (a0 % 65536 == b0 % 65536) = true := by simpa using hA
                   rw [hA', Bool.true_and] at tq
                   clear hA')
                | (have hA' : (a0 % 65536 == b0 % 65536) = false := by simpa using hA
                   rw [hA', Bool.false_and] at tq
                   clear hA')
              go_wp2_with (refine want_load_row rfl 25 (.tmp 3) rfl w.heap.size (by rfl) 25 cx (0, 0) _ HS.out.x Tryd.underlying25 rfl HSZ.out ?_)
              clear tx ty tq hA ca0 ca1 cb0 cb1 BA0 BA1 BB0 BB1 ua0 ua1 ub0 ub1
              have hcall := chain_any hs a0 a1 Wy HLX.out HH.out Ka0.1 Ka0.2 Ka1.1 Ka1.2 (HLA.out.up HS.out.up)
              rw [HCX.out] at hcall
              obtain ⟨zl, hzl⟩ : ∃ l, (2 :: (hs ++ num2 a0 ++ num2 a1)) = l := ⟨_, rfl⟩
              rw [hzl] at hcall
              have HZL := Lib.hid hzl
              clear hzl
              refine hcall.mono ?_
              clear hcall
              rintro e W8 ⟨rfl, b4⟩
              have HS := Lib.hid (HS.out.to (up_below b4))
              have Sx := Lib.hid (Sx.out.up (up_below b4))
              have Sy := Lib.hid (Sy.out.up (up_below b4))
              clear b4
              go_wp2_with fail
              have hsum := shaSum_any (2 :: (hs ++ num2 a0 ++ num2 a1)) _ W8 Sx.out (Bytes.cons (by omega) ((HH.out.append (num2_bytes a0)).append (num2_bytes a1))) (by simp [HLX.out, num2]) (HLA.out.up HS.out.up)
              rw [HZL.out] at hsum
              refine hsum.mono ?_
              clear hsum
              rintro e W9 ⟨rfl, b5⟩
              have HS := Lib.hid (HS.out.to (up_below b5))
              have Sx := Lib.hid (Sx.out.up (up_below b5))
              have Sy := Lib.hid (Sy.out.up (up_below b5))
              clear b5
              have q1 := eql25 (shaI zl) (shaI zl) (hash_size _) (hash_size _)
              have q2 := fun op x y W => guard25 op x y (shaI zl) (shaI zl) W
              rw [show (shaI zl == shaI zl) = true by simp] at q1
              go_wp2_with fail
              clear q1 q2
              refine (awake2_any W9 (HLA.out.up HS.out.up)).mono ?_
              rintro e W10 ⟨rfl, b10⟩
              have HUP := Lib.hid (HS.out.up.trans (up_below b10))
              clear b10
              go_wp2
              go_ret
              exact ⟨rfl, HUP.out.below_none (fun _ _ h => h)⟩
end Go.Proofs.YtaahffminoekfaaDoor
