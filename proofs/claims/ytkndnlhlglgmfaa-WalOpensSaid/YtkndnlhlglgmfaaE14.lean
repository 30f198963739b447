/-
  Copy, walked; a disk by its blocks.
-/
import Derived.Test.YtkndnlhlglgmfaaE13
namespace Go.Proofs.Ytkndnlhlglgmfaa
open Go.RowKit
def CopyPost (w : World) (m : Nat) (ss : List Value) (C : Int → Option Value) (x : Dk) (e : Ending) (w' : World) : Prop := ∃ q b' sv', e = .returned (.pointer (some ⟨q, 0, none⟩)) ∧ DiskAt w' q b' m sv' ss C x ∧ (∀ k, OwnD q b' sv' k → w.heap.size ≤ k) ∧ Below w.heap.size w w'
def RowN (base : Nat) (ss : List Value) (v : Value) (W : World) : Prop := ∃ A c, v = .slice A ss.length c ∧ W.ownsRow base 28 1 (.slice A ss.length c) ss.length ss
theorem RowN.up {base : Nat} {ss : List Value} {v : Value} {W W' : World} (h : RowN base ss v W) (hu : Up W W') : RowN base ss v W' := by
  obtain ⟨A, c, e, h1⟩ := h
  exact ⟨A, c, e, own_chg h1 hu (fun _ _ h => h)⟩
def MapN (base m : Nat) (C : Int → Option Value) (v : Value) (W : World) : Prop := ∃ b, v = .map (some b) ∧ base ≤ b ∧ CacheAt W b m C
theorem MapN.up {base m : Nat} {C : Int → Option Value} {v : Value} {W W' : World} (h : MapN base m C v W) (hu : Up W W') : MapN base m C v W' := by
  obtain ⟨b, e, h0, h1⟩ := h
  exact ⟨b, e, h0, h1.chg hu (fun h => h)⟩
theorem own_srcV {w : World} {base n : Nat} {v : Value} {us : List Value} {t : TypeId} (h : w.ownsRow base t 1 v n us) : Src w v 1 n us := by
  rcases h.2 with ⟨hv, h0⟩ | ⟨g, cap, cur, rfl, _, _, h1, h2, _⟩
  · have hl : us.length = n * 1 := by have := h.1; omega
    have : us = [] := List.eq_nil_of_length_eq_zero (by omega)
    subst this
    exact .inl ⟨hv, h0, rfl⟩
  · exact .inr ⟨⟨g, 0, none⟩, cap, rfl, by have := h.1; omega, h1, by simpa [maxLen] using h2, fun j u hu => World.ownsRow.cells h rfl j u hu⟩
set_option maxRecDepth 100000 in
set_option maxHeartbeats 4000000 in
theorem copy_any (w : World) (p b m : Nat) (sv : Value) (ss : List Value) (C : Int → Option Value) (x : Dk) (h : DiskAt w p b m sv ss C x) (hnb : x.has.length ≤ 65536) : Calls Try.prog 22 #[.pointer (some ⟨p, 0, none⟩)] w (CopyPost w m ss C x) := by
  have c0 := h.c0
  have c1 := h.c1
  have c2 := h.c2
  have c3 := h.c3
  have c4 := h.c4
  have c5 := h.c5
  have hl := h.len
  obtain ⟨A, cs, rfl⟩ := own_shape h.row
  have hone : ∀ u ∈ ss, u.oneCell' = true := fun u hu => by
    obtain ⟨j, hj, rfl⟩ := List.mem_iff_getElem.1 hu
    have := h.sec j (by omega)
    rw [List.getD_eq_getElem?_getD, List.getElem?_eq_getElem hj] at this
    obtain ⟨A2, c2, e⟩ := own_shape this
    simp only [Option.getD_some] at e
    rw [e]; rfl
  have hu0 : Up w (w.alloc (.cells #[.int .i64 x.size, .slice A ss.length cs, .map (some b), .int .i64 x.left, .int .i64 x.done, .bool x.down] 81)) := (Chg.refl _ w).alloc _
  have h1 := h.up hu0
  obtain ⟨W1, hW1⟩ : ∃ W1, W1 = w.alloc (.cells #[.int .i64 x.size, .slice A ss.length cs, .map (some b), .int .i64 x.left, .int .i64 x.done, .bool x.down] 81) := ⟨_, rfl⟩
  obtain ⟨q, hq⟩ : ∃ q, q = w.heap.size := ⟨_, rfl⟩
  have hobj := heap_alloc_last w (.cells #[.int .i64 x.size, .slice A ss.length cs, .map (some b), .int .i64 x.left, .int .i64 x.done, .bool x.down] 81)
  rw [← hW1] at hu0 h1
  rw [← hq, ← hW1] at hobj
  have HOBJ : Hid (W1.drew.heap[q]? = some (.cells #[.int .i64 x.size, .slice A ss.length cs, .map (some b), .int .i64 x.left, .int .i64 x.done, .bool x.down] 81 (0, 0))) := Lib.hid hobj
  have HC1 : Hid (W1.drew.cell? ⟨p, 1, none⟩ = some (.slice A ss.length cs)) := Lib.hid h1.c1
  have HC2 : Hid (W1.drew.cell? ⟨p, 2, none⟩ = some (.map (some b))) := Lib.hid h1.c2
  have HSRC : Hid (Src W1.drew (.slice A ss.length cs) 1 ss.length ss) := Lib.hid (own_srcV h1.row)
  have HMAP : Hid (CacheAt W1.drew b m C) := Lib.hid (h1.up (Chg.refl _ _).drew).map
  have HSZ : Hid (w.heap.size ≤ W1.drew.heap.size) := Lib.hid hu0.size
  have HU0 : Hid (Up w W1.drew) := Lib.hid hu0.drew
  have HONE := Lib.hid hone
  have HNB : Hid (ss.length ≤ 65536) := Lib.hid (by omega)
  have H1 := Lib.hid h1
  have HQ := Lib.hid hq
  have HW1 := Lib.hid hW1
  clear h h1 hl hone hu0 hobj hnb hW1 hq
  go_enter Try.func22, Try.ntmps22
  go_wp2_with fail
  rw [← HW1.out, ← HQ.out]
  refine MT.region_mono Up [fun v _ => v = .pointer (some ⟨p, 0, none⟩),
      fun v _ => v = .pointer (some ⟨p, 0, none⟩),
      fun v _ => v = .pointer (some ⟨p, 1, none⟩),
      fun v _ => v = .slice A ss.length cs,
      RowN w.heap.size ss,
      fun v _ => v = .pointer (some ⟨p, 0, none⟩),
      fun v _ => v = .pointer (some ⟨p, 0, none⟩),
      fun v _ => v = .pointer (some ⟨p, 2, none⟩),
      fun v _ => v = .map (some b),
      MapN w.heap.size m C] (by kernel_rfl) (by kernel_rfl) (Chg.refl _) (fun _ _ _ => Chg.trans) (by simp) ?_ ?_ ?_
  · simp only [List.forall_mem_cons]
    exact ⟨fun _ _ _ _ _ h => h, fun _ _ _ _ _ h => h, fun _ _ _ _ _ h => h, fun _ _ _ _ _ h => h, fun _ _ _ _ hu h => RowN.up h hu, fun _ _ _ _ _ h => h, fun _ _ _ _ _ h => h, fun _ _ _ _ _ h => h, fun _ _ _ _ _ h => h, fun _ _ _ _ hu h => MapN.up h hu, by simp⟩
  · refine ⟨?_, ?_, ?_, ?_, ?_, ?_, ?_, ?_, ?_, ?_, trivial⟩
    · intro ρ w1 hw h0 hc hg hf hd
      have s0 : ρ (.tmp 0) = .pointer (some ⟨p, 0, none⟩) := h0 0 (by kernel_rfl)
      refine ⟨fun _ => ?_, fun h => by cases h⟩
      clear h0 hg hd
      exact gives_move rfl ⟨Chg.refl _ _, s0⟩
    · intro ρ w1 hw h0 hc hg hf hd
      have d0 := hd ⟨0, .data⟩ (by simp) rfl _ _ _ rfl rfl rfl
      refine ⟨fun _ => ?_, fun h => by cases h⟩
      clear h0 hg hd
      clear hf
      refine Gives.value (w' := w1) ?_ ⟨Chg.refl _ _, rfl⟩
      go_simp
    · intro ρ w1 hw h0 hc hg hf hd
      have d1 := hd ⟨1, .data⟩ (by simp) rfl _ _ _ rfl rfl rfl
      refine ⟨fun _ => ?_, fun h => by cases h⟩
      clear h0 hg hd
      clear hf
      refine Gives.value (w' := w1) ?_ ⟨Chg.refl _ _, rfl⟩
      go_simp
    · intro ρ w1 hw h0 hc hg hf hd
      have d2 := hd ⟨2, .data⟩ (by simp) rfl _ _ _ rfl rfl rfl
      refine ⟨fun _ => ?_, fun h => by cases h⟩
      clear h0 hg hd
      clear hc hf
      have c1 := hw.cell HC1.out (fun h => h)
      refine Gives.value (w' := w1) ?_ ⟨Chg.refl _ _, rfl⟩
      go_simp
    · intro ρ w1 hw h0 hc hg hf hd
      have d3 := hd ⟨3, .data⟩ (by simp) rfl _ _ _ rfl rfl rfl
      refine ⟨fun _ => ?_, fun h => by cases h⟩
      clear h0 hg hd
      refine gives_call rfl hf Try.func56 rfl (by kernel_rfl) (args := #[.slice A ss.length cs]) (by simp [d3]) ((sclone_any w1 _ ss (Src.chg HSRC.out hw (fun _ _ _ h => h) (by decide)) HONE.out (by have := HNB.out; omega)).mono ?_)
      rintro e w2 ⟨v', rfl, ho, hb⟩
      obtain ⟨A', c', rfl⟩ := own_shape ho
      exact ⟨_, rfl, up_below hb, A', c', rfl, own_base ho (by have := hw.size; have := HSZ.out; omega)⟩
    · intro ρ w1 hw h0 hc hg hf hd
      have s0 : ρ (.tmp 0) = .pointer (some ⟨p, 0, none⟩) := h0 0 (by kernel_rfl)
      refine ⟨fun _ => ?_, fun h => by cases h⟩
      clear h0 hg hd
      exact gives_move rfl ⟨Chg.refl _ _, s0⟩
    · intro ρ w1 hw h0 hc hg hf hd
      have d5 := hd ⟨5, .data⟩ (by simp) rfl _ _ _ rfl rfl rfl
      refine ⟨fun _ => ?_, fun h => by cases h⟩
      clear h0 hg hd
      clear hf
      refine Gives.value (w' := w1) ?_ ⟨Chg.refl _ _, rfl⟩
      go_simp
    · intro ρ w1 hw h0 hc hg hf hd
      have d6 := hd ⟨6, .data⟩ (by simp) rfl _ _ _ rfl rfl rfl
      refine ⟨fun _ => ?_, fun h => by cases h⟩
      clear h0 hg hd
      clear hf
      refine Gives.value (w' := w1) ?_ ⟨Chg.refl _ _, rfl⟩
      go_simp
    · intro ρ w1 hw h0 hc hg hf hd
      have d7 := hd ⟨7, .data⟩ (by simp) rfl _ _ _ rfl rfl rfl
      refine ⟨fun _ => ?_, fun h => by cases h⟩
      clear h0 hg hd
      clear hc hf
      have c1 := hw.cell HC2.out (fun h => h)
      refine Gives.value (w' := w1) ?_ ⟨Chg.refl _ _, rfl⟩
      go_simp
    · intro ρ w1 hw h0 hc hg hf hd
      have d8 := hd ⟨8, .data⟩ (by simp) rfl _ _ _ rfl rfl rfl
      refine ⟨fun _ => ?_, fun h => by cases h⟩
      clear h0 hg hd
      obtain ⟨es, cl, hmb, hcl⟩ := (HMAP.out.chg hw (fun h => h)).clone
      refine gives_call rfl hf Try.func57 rfl (by kernel_rfl) (args := #[.map (some b)]) (by simp [d8]) ((mclone_any w1 b es cl hmb).mono ?_)
      rintro e w2 ⟨rfl, rfl⟩
      exact ⟨_, rfl, (Chg.refl _ w1).alloc _, w1.heap.size, rfl, by have := hw.size; have := HSZ.out; omega, hcl⟩
  · intro vs w2 hw hr
    have h4 := hr 4 _ rfl
    have h9 := hr 9 _ rfl
    clear hr
    dsimp only [putsL, restL]
    simp only [Act.put, List.setIfInBounds_toArray, List.set_cons_zero, List.set_cons_succ]
    obtain ⟨A2, k2, e4, hrow⟩ := h4
    obtain ⟨b2, e9, hb2, hmap⟩ := h9
    simp only [Nat.zero_add, Nat.reduceAdd]
    rw [e4, e9]
    have hob2 := hw.heap HOBJ.out (fun h => h)
    have q1 := cell_of_row w2 q 1 _ _ _ hob2
    have f1 := frozen_of_row w2 q 1 _ _ hob2
    have q2 := cell_of_row w2 q 2 _ _ _ hob2
    have f2 := frozen_of_row w2 q 2 _ _ hob2
    have hd2 := (H1.out.up (Chg.refl (fun _ => False) W1).drew).up hw
    have HD2 := Lib.hid hd2
    have HROW := Lib.hid hrow
    have HMAP2 := Lib.hid hmap
    have HOB2 := Lib.hid hob2
    have HW := Lib.hid hw
    have HB2 := Lib.hid hb2
    clear hw hob2 hd2 hrow hmap e4 e9 hb2
    go_wp2_with fail
    go_ret
    have hc : Chg (fun k => k = q) w2 ((w2.setCell ⟨q, 1, none⟩ (.slice A2 ss.length k2)).setCell ⟨q, 2, none⟩ (.map (some b2))) := ((Chg.refl (fun k => k = q) w2).setCell ⟨q, 1, none⟩ (.inl rfl) _).setCell ⟨q, 2, none⟩ (.inl rfl) _
    have h5 : ∀ k cur fr, k = q → w2.heap[k]? ≠ some (.cells cur 5 fr) := fun k cur fr e hh => by subst e; rw [HOB2.out] at hh; cases hh
    have h28 : ∀ k cur fr, k = q → w2.heap[k]? ≠ some (.cells cur 28 fr) := fun k cur fr e hh => by subst e; rw [HOB2.out] at hh; cases hh
    have hbq : b2 ≠ q := fun e => by
      obtain ⟨es, cl, hh⟩ := HMAP2.out.block
      rw [e, HOB2.out] at hh; cases hh
    refine ⟨q, b2, _, rfl, ⟨by rw [heap_setCell_same _ q 2 _ _ _ (heap_setCell_same w2 q 1 _ _ _ HOB2.out)]; rfl, own_base (own_chg' HROW.out hc h28) (Nat.zero_le _), HD2.out.len, fun j hj => own_chg' (HD2.out.sec j hj) hc h5, HMAP2.out.chg hc hbq, fun i v hv => ?_, HD2.out.non⟩, fun k hk => ?_, ?_⟩
    · obtain ⟨k1, k2, ys, k3, k4⟩ := HD2.out.key i v hv
      exact ⟨k1, k2, ys, k3, own_chg' k4 hc h5⟩
    · rcases hk with rfl | rfl | hk
      · rw [HQ.out]; exact Nat.le_refl _
      · exact HB2.out
      · rcases HROW.out.2 with ⟨e, _⟩ | ⟨g, cap, cur, e, hg, _⟩
        · rw [e] at hk; simp [Value.ownBlock] at hk
        · injection e with e _ _; subst e; simp [Value.ownBlock] at hk; omega
    · exact (((HU0.out.mono (fun _ _ h => h.elim)).then HW.out (fun _ h => h.elim)).then hc (fun i hi => .inr (by rw [hi, HQ.out]; exact Nat.le_refl _))).below (S := fun i => w.heap.size ≤ i) (Nat.le_refl _) (fun _ h => h)
end Go.Proofs.Ytkndnlhlglgmfaa
