/-
  Nodes, records, steps, secrets: walked.
-/
import Derived.Test.YtaahffminoekfaaDoorT4
import Derived.Test.YtaahffminoekfaaDoorGX
namespace Go.Proofs.YtaahffminoekfaaDoor
open Go.RowKit
/-- 'Whatever was made stays': the relation of worlds along a region. -/
abbrev Up : World → World → Prop := Chg (fun _ => False)
theorem Up.below {a b : World} (h : Up a b) : Below a.heap.size a b := h.below_none (fun _ _ h => h)
theorem up_below {a b : World} (h : Below a.heap.size a b) : Up a b := Chg.of_below h _
theorem SlB.up {w w' : World} {v : Value} {xs : List Int} (h : SlB w v xs) (hu : Up w w') : SlB w' v xs := SlB.chg h hu (fun _ _ h => h)
theorem SlBB.up {w w' : World} {v : Value} {ls : List (List Int)} (h : SlBB w v ls) (hu : Up w w') : SlBB w' v ls := by
  rcases h with h | ⟨a, cap, V, he, h1, h2, h⟩
  · exact .inl h
  · exact .inr ⟨a, cap, V, he, h1, h2, fun r hr => ⟨hu.cell (h r hr).1 (fun h => h), (h r hr).2.1.up hu, (h r hr).2.2⟩⟩
theorem Laid.up {w w' : World} (h : Laid w) (hu : Up w w') : Laid w' := h.chg hu (fun h => h) (fun h => h)
theorem row_src' {w : World} {g : Nat} {cx : Array Value} {xs : List Int} {t : TypeId} (he : (u8s xs).toArray = cx) (hg : w.heap[g]? = some (.cells cx t (0, 0))) (hl : xs.length = 32) : SlB w (.slice (some ⟨g, 0, none⟩) 32 32) xs :=
  row_src (t := t) (by rw [he]; exact hg) hl
/-- The bytes of a number, in two or in four. -/
def num2 (n : Int) : List Int := [n / 256 % 256, n % 256]
def num4 (n : Int) : List Int := [n / 16777216 % 256, n / 65536 % 256, n / 256 % 256, n % 256]
theorem num2_bytes (n : Int) : Bytes (num2 n) := fun j => by
  unfold num2
  match j with
  | 0 | 1 => simp; omega
  | j + 2 => simp
theorem num4_bytes (n : Int) : Bytes (num4 n) := fun j => by
  unfold num4
  match j with
  | 0 | 1 | 2 | 3 => simp; omega
  | j + 4 => simp
set_option maxRecDepth 100000 in
set_option maxHeartbeats 1000000 in
theorem node_any (xs ys : List Int) (w : World) (lx : xs.length = 32) (ly : ys.length = 32) (hx : Bytes xs) (hy : Bytes ys) (hla : Laid w) :
    Calls Tryd.prog 41 #[hashV xs, hashV ys] w (SumPost (1 :: (xs ++ ys)) w) := by
  have hl2 := hla.lt
  obtain ⟨cx, hcx, hux, _, _, _, _⟩ := hash_parts xs lx
  obtain ⟨cy, hcy, huy, _, _, _, _⟩ := hash_parts ys ly
  rw [hcx, hcy]
  have HCX := Lib.hid hux
  have HCY := Lib.hid huy
  have HX := Lib.hid hx
  have HY := Lib.hid hy
  have HLX := Lib.hid lx
  have HLY := Lib.hid ly
  have HLA := Lib.hid hla
  clear hcx hcy hux huy hx hy lx ly hla
  go_enter Tryd.func41, Tryd.ntmps41
  go_wp2_with fail
  obtain ⟨W0, hW0⟩ : ∃ W0, W0 = ((w.alloc (.cells cx 25)).alloc (.cells cy 25)).alloc (.cells ((List.replicate 32 (Value.int .u8 0)).toArray) 25) := ⟨_, rfl⟩
  rw [lit32, ← hW0]
  have HR0 : Hid (W0.drew.heap[w.heap.size + 1 + 1]? = some (.cells ((List.replicate 32 (Value.int .u8 0)).toArray) 25 (0, 0))) := Lib.hid (by
    rw [hW0]; have := heap_alloc_last ((w.alloc (.cells cx 25)).alloc (.cells cy 25)) (.cells ((List.replicate 32 (Value.int .u8 0)).toArray) 25); rwa [World.size_alloc, World.size_alloc] at this)
  have HRX : Hid (W0.drew.heap[w.heap.size]? = some (.cells cx 25 (0, 0))) := Lib.hid (by
    rw [hW0]; exact (Below.heap_alloc _ _ _ (by simp; omega)).trans ((Below.heap_alloc _ _ _ (by simp)).trans (heap_alloc_last _ _)))
  have HRY : Hid (W0.drew.heap[w.heap.size + 1]? = some (.cells cy 25 (0, 0))) := Lib.hid (by
    rw [hW0]; refine (Below.heap_alloc _ _ _ (by simp)).trans ?_; have := heap_alloc_last (w.alloc (.cells cx 25)) (.cells cy 25); rwa [World.size_alloc] at this)
  have HC0 : Hid (Up w W0.drew) := Lib.hid (by rw [hW0]; exact ((((Chg.refl _ w).alloc _).alloc _).alloc _).drew)
  clear hW0
  refine region_mono Up [fun v _ => v = .slice (some ⟨w.heap.size, 0, none⟩) 32 32,
      fun v _ => v = .slice (some ⟨w.heap.size + 1, 0, none⟩) 32 32,
      fun v w' => SlBB w' v [xs, ys],
      fun v _ => v = hashV (shaI (1 :: (xs ++ ys)))] (by kernel_rfl) (by kernel_rfl) (Chg.refl _) (fun _ _ _ => Chg.trans) (by simp) ?_ ?_ ?_
  · simp only [List.forall_mem_cons]
    exact ⟨fun _ _ _ _ _ h => h, fun _ _ _ _ _ h => h, fun _ _ _ _ hu h => SlBB.up h hu, fun _ _ _ _ _ h => h, by simp⟩
  · refine ⟨?_, ?_, ?_, ?_, trivial⟩
    · intro ρ w1 hw h0 hc hg hf hd
      have s2 : ρ (.tmp 2) = .pointer (some ⟨w.heap.size, 0, none⟩) := h0 2 (by kernel_rfl)
      refine ⟨fun _ => ?_, fun h => by cases h⟩
      clear h0 hg hd
      clear hc hf
      refine Gives.value (w' := w1) ?_ ⟨Chg.refl _ _, rfl⟩
      go_simp
    · intro ρ w1 hw h0 hc hg hf hd
      have s3 : ρ (.tmp 3) = .pointer (some ⟨w.heap.size + 1, 0, none⟩) := h0 3 (by kernel_rfl)
      refine ⟨fun _ => ?_, fun h => by cases h⟩
      clear h0 hg hd
      clear hc hf
      refine Gives.value (w' := w1) ?_ ⟨Chg.refl _ _, rfl⟩
      go_simp
    · intro ρ w1 hw h0 hc hg hf hd
      have d0 := hd ⟨0, .data⟩ (by simp) rfl _ _ _ rfl rfl rfl
      have d1 := hd ⟨1, .data⟩ (by simp) rfl _ _ _ rfl rfl rfl
      refine ⟨fun _ => ?_, fun h => by cases h⟩
      clear h0 hg hd
      clear hc hf
      have hs := rows2 w1 _ _ xs ys (row_src' HCX.out (hw.heap HRX.out (fun h => h)) HLX.out) HX.out (row_src' HCY.out (hw.heap HRY.out (fun h => h)) HLY.out) HY.out
      refine Gives.value ?_ ⟨(Chg.refl _ w1).alloc _, hs⟩
      clear hs
      go_simp
    · intro ρ w1 hw h0 hc hg hf hd
      have d2 := hd ⟨2, .data⟩ (by simp) rfl _ _ _ rfl rfl rfl
      refine ⟨fun _ => ?_, fun h => by cases h⟩
      clear h0 hg hd
      have hs := tagsum_any 1 _ _ w1 d2 (by omega) (by omega) (by simp [HLX.out, HLY.out]) (HLA.out.up (HC0.out.trans hw))
      rw [show [xs, ys].flatten = xs ++ ys by simp] at hs
      have hs := hs
      refine gives_call rfl hf Tryd.func65 rfl (by kernel_rfl) (args := #[.int .i64 1, ρ (.tmp 7)]) (by simp [hc]) (hs.mono ?_)
      rintro e w2 ⟨rfl, hb⟩
      exact ⟨_, rfl, up_below hb, rfl⟩
  · intro vs w2 hw hr
    have h3 := hr 3 _ rfl
    clear hr
    dsimp only [putsL, restL]
    simp only [Act.put, List.setIfInBounds_toArray, List.set_cons_zero, List.set_cons_succ]
    rw [h3]
    clear h3
    have hr3 : w2.heap[w.heap.size + 1 + 1]? = some (.cells ((List.replicate 32 (Value.int .u8 0)).toArray) 25 (0, 0)) := hw.heap HR0.out (fun h => h)
    obtain ⟨hc, hhc, _, hone, hold, hsz, _⟩ := hash_parts _ (hash_size (1 :: (xs ++ ys)))
    have H3 := Lib.hid hr3
    have HSZ := Lib.hid hsz
    have HON := Lib.hid hone
    have HOL := Lib.hid hold
    have HHC := Lib.hid hhc
    have HUP := Lib.hid (HC0.out.trans hw)
    rw [hhc]
    clear hr3 hsz hone hold hhc hw
    go_wp2_with (refine wpList_store_row rfl 25 (.tmp 4) (.tmp 8) rfl (w.heap.size + 1 + 1) hc (by rfl) (by rfl) 25 _ H3.out HSZ.out HOL.out HON.out ?_)
    have hset := setRow_same w2 (w.heap.size + 1 + 1) hc _ 25 (0, 0) H3.out
    refine bodyPost_ret (v := .agg hc) (results_cell_row rfl _ _ (w.heap.size + 1 + 1) 25 hc (0, 0) _ (by rfl) hset Tryd.underlying25 rfl HSZ.out) rfl ?_
    exact ⟨by rw [HHC.out], ((HUP.out.mono (T := fun i => w.heap.size ≤ i) (fun _ _ h => h.elim)).setRow (w.heap.size + 1 + 1) (.inl (by omega)) hc).below (Nat.le_refl _) (fun _ h => h)⟩
set_option maxRecDepth 100000 in
set_option maxHeartbeats 1000000 in
theorem chain_any (xs : List Int) (a b : Int) (w : World) (lx : xs.length = 32) (hx : Bytes xs) (ha1 : -9223372036854775808 ≤ a) (ha2 : a ≤ 9223372036854775807) (hb1 : -9223372036854775808 ≤ b) (hb2 : b ≤ 9223372036854775807) (hla : Laid w) :
    Calls Tryd.prog 42 #[hashV xs, .int .i64 a, .int .i64 b] w (SumPost (2 :: (xs ++ num2 a ++ num2 b)) w) := by
  have hl2 := hla.lt
  obtain ⟨cx, hcx, hux, _, _, _, _⟩ := hash_parts xs lx
  rw [hcx]
  have HCX := Lib.hid hux
  have HX := Lib.hid hx
  have HLX := Lib.hid lx
  have HLA := Lib.hid hla
  clear hcx hux hx lx hla
  go_enter Tryd.func42, Tryd.ntmps42
  go_wp2_with fail
  obtain ⟨W0, hW0⟩ : ∃ W0, W0 = (w.alloc (.cells cx 25)).alloc (.cells ((List.replicate 32 (Value.int .u8 0)).toArray) 25) := ⟨_, rfl⟩
  rw [lit32, ← hW0]
  have HR0 : Hid (W0.drew.heap[w.heap.size + 1]? = some (.cells ((List.replicate 32 (Value.int .u8 0)).toArray) 25 (0, 0))) := Lib.hid (by
    rw [hW0]; have := heap_alloc_last (w.alloc (.cells cx 25)) (.cells ((List.replicate 32 (Value.int .u8 0)).toArray) 25); rwa [World.size_alloc] at this)
  have HRX : Hid (W0.drew.heap[w.heap.size]? = some (.cells cx 25 (0, 0))) := Lib.hid (by
    rw [hW0]; exact (Below.heap_alloc _ _ _ (by simp)).trans (heap_alloc_last _ _))
  have HC0 : Hid (Up w W0.drew) := Lib.hid (by rw [hW0]; exact (((Chg.refl _ w).alloc _).alloc _).drew)
  clear hW0
  refine region_mono Up [fun v _ => v = .slice (some ⟨w.heap.size, 0, none⟩) 32 32,
      fun v _ => v = .int .i64 a,
      fun v w' => SlB w' v (num2 a),
      fun v _ => v = .int .i64 b,
      fun v w' => SlB w' v (num2 b),
      fun v w' => SlBB w' v [xs, num2 a, num2 b],
      fun v _ => v = hashV (shaI (2 :: (xs ++ num2 a ++ num2 b)))] (by kernel_rfl) (by kernel_rfl) (Chg.refl _) (fun _ _ _ => Chg.trans) (by simp) ?_ ?_ ?_
  · simp only [List.forall_mem_cons]
    exact ⟨fun _ _ _ _ _ h => h, fun _ _ _ _ _ h => h, fun _ _ _ _ hu h => SlB.up h hu, fun _ _ _ _ _ h => h, fun _ _ _ _ hu h => SlB.up h hu, fun _ _ _ _ hu h => SlBB.up h hu, fun _ _ _ _ _ h => h, by simp⟩
  · refine ⟨?_, ?_, ?_, ?_, ?_, ?_, ?_, trivial⟩
    · intro ρ w1 hw h0 hc hg hf hd
      have s3 : ρ (.tmp 3) = .pointer (some ⟨w.heap.size, 0, none⟩) := h0 3 (by kernel_rfl)
      refine ⟨fun _ => ?_, fun h => by cases h⟩
      clear h0 hg hd
      clear hc hf
      refine Gives.value (w' := w1) ?_ ⟨Chg.refl _ _, rfl⟩
      go_simp
    · intro ρ w1 hw h0 hc hg hf hd
      have s1 : ρ (.tmp 1) = .int .i64 a := h0 1 (by kernel_rfl)
      refine ⟨fun _ => ?_, fun h => by cases h⟩
      clear h0 hg hd
      exact gives_move rfl ⟨Chg.refl _ _, s1⟩
    · intro ρ w1 hw h0 hc hg hf hd
      have d1 := hd ⟨1, .data⟩ (by simp) rfl _ _ _ rfl rfl rfl
      refine ⟨fun _ => ?_, fun h => by cases h⟩
      clear h0 hg hd
      refine gives_call rfl hf Tryd.func67 rfl (by kernel_rfl) (args := #[.int .i64 a, .int .i64 2]) (by simp [hc, d1]) ((number2_any a w1 ha1 ha2).mono ?_)
      rintro e w2 ⟨A, c, rfl, ho, hb⟩
      exact ⟨_, rfl, up_below hb, own_src ho⟩
    · intro ρ w1 hw h0 hc hg hf hd
      have s2 : ρ (.tmp 2) = .int .i64 b := h0 2 (by kernel_rfl)
      refine ⟨fun _ => ?_, fun h => by cases h⟩
      clear h0 hg hd
      exact gives_move rfl ⟨Chg.refl _ _, s2⟩
    · intro ρ w1 hw h0 hc hg hf hd
      have d3 := hd ⟨3, .data⟩ (by simp) rfl _ _ _ rfl rfl rfl
      refine ⟨fun _ => ?_, fun h => by cases h⟩
      clear h0 hg hd
      refine gives_call rfl hf Tryd.func67 rfl (by kernel_rfl) (args := #[.int .i64 b, .int .i64 2]) (by simp [hc, d3]) ((number2_any b w1 hb1 hb2).mono ?_)
      rintro e w2 ⟨A, c, rfl, ho, hb⟩
      exact ⟨_, rfl, up_below hb, own_src ho⟩
    · intro ρ w1 hw h0 hc hg hf hd
      have d0 := hd ⟨0, .data⟩ (by simp) rfl _ _ _ rfl rfl rfl
      have d2 := hd ⟨2, .data⟩ (by simp) rfl _ _ _ rfl rfl rfl
      have d4 := hd ⟨4, .data⟩ (by simp) rfl _ _ _ rfl rfl rfl
      refine ⟨fun _ => ?_, fun h => by cases h⟩
      clear h0 hg hd
      clear hc hf
      have hs := rows3 w1 _ _ _ xs (num2 a) (num2 b) (row_src' HCX.out (hw.heap HRX.out (fun h => h)) HLX.out) HX.out d2 (num2_bytes a) d4 (num2_bytes b)
      obtain ⟨B2, c2, e2, _⟩ := d2.shape
      obtain ⟨B4, c4, e4, _⟩ := d4.shape
      rw [e2, e4] at hs
      clear d2 d4
      refine Gives.value ?_ ⟨(Chg.refl _ w1).alloc _, hs⟩
      clear hs
      go_simp
    · intro ρ w1 hw h0 hc hg hf hd
      have d5 := hd ⟨5, .data⟩ (by simp) rfl _ _ _ rfl rfl rfl
      refine ⟨fun _ => ?_, fun h => by cases h⟩
      clear h0 hg hd
      have hs := tagsum_any 2 _ _ w1 d5 (by omega) (by omega) (by simp [HLX.out, num2]) (HLA.out.up (HC0.out.trans hw))
      rw [show [xs, num2 a, num2 b].flatten = xs ++ num2 a ++ num2 b by simp] at hs
      have hs := hs
      refine gives_call rfl hf Tryd.func65 rfl (by kernel_rfl) (args := #[.int .i64 2, ρ (.tmp 12)]) (by simp [hc]) (hs.mono ?_)
      rintro e w2 ⟨rfl, hb⟩
      exact ⟨_, rfl, up_below hb, rfl⟩
  · intro vs w2 hw hr
    have h6 := hr 6 _ rfl
    clear hr
    dsimp only [putsL, restL]
    simp only [Act.put, List.setIfInBounds_toArray, List.set_cons_zero, List.set_cons_succ]
    rw [h6]
    clear h6
    have hr3 : w2.heap[w.heap.size + 1]? = some (.cells ((List.replicate 32 (Value.int .u8 0)).toArray) 25 (0, 0)) := hw.heap HR0.out (fun h => h)
    obtain ⟨hc, hhc, _, hone, hold, hsz, _⟩ := hash_parts _ (hash_size (2 :: (xs ++ num2 a ++ num2 b)))
    have H3 := Lib.hid hr3
    have HSZ := Lib.hid hsz
    have HON := Lib.hid hone
    have HOL := Lib.hid hold
    have HHC := Lib.hid hhc
    have HUP := Lib.hid (HC0.out.trans hw)
    rw [hhc]
    clear hr3 hsz hone hold hhc hw
    go_wp2_with (refine wpList_store_row rfl 25 (.tmp 6) (.tmp 13) rfl (w.heap.size + 1) hc (by rfl) (by rfl) 25 _ H3.out HSZ.out HOL.out HON.out ?_)
    have hset := setRow_same w2 (w.heap.size + 1) hc _ 25 (0, 0) H3.out
    refine bodyPost_ret (v := .agg hc) (results_cell_row rfl _ _ (w.heap.size + 1) 25 hc (0, 0) _ (by rfl) hset Tryd.underlying25 rfl HSZ.out) rfl ?_
    exact ⟨by rw [HHC.out], ((HUP.out.mono (T := fun i => w.heap.size ≤ i) (fun _ _ h => h.elim)).setRow (w.heap.size + 1) (.inl (by omega)) hc).below (Nat.le_refl _) (fun _ h => h)⟩
set_option maxRecDepth 100000 in
set_option maxHeartbeats 1000000 in
theorem secret_any (xs : List Int) (a b : Int) (w : World) (lx : xs.length = 32) (hx : Bytes xs) (ha1 : -9223372036854775808 ≤ a) (ha2 : a ≤ 9223372036854775807) (hb1 : -9223372036854775808 ≤ b) (hb2 : b ≤ 9223372036854775807) (hla : Laid w) :
    Calls Tryd.prog 43 #[hashV xs, .int .i64 a, .int .i64 b] w (SumPost (3 :: (xs ++ num4 a ++ num4 b)) w) := by
  have hl2 := hla.lt
  obtain ⟨cx, hcx, hux, _, _, _, _⟩ := hash_parts xs lx
  rw [hcx]
  have HCX := Lib.hid hux
  have HX := Lib.hid hx
  have HLX := Lib.hid lx
  have HLA := Lib.hid hla
  clear hcx hux hx lx hla
  go_enter Tryd.func43, Tryd.ntmps43
  go_wp2_with fail
  obtain ⟨W0, hW0⟩ : ∃ W0, W0 = (w.alloc (.cells cx 25)).alloc (.cells ((List.replicate 32 (Value.int .u8 0)).toArray) 25) := ⟨_, rfl⟩
  rw [lit32, ← hW0]
  have HR0 : Hid (W0.drew.heap[w.heap.size + 1]? = some (.cells ((List.replicate 32 (Value.int .u8 0)).toArray) 25 (0, 0))) := Lib.hid (by
    rw [hW0]; have := heap_alloc_last (w.alloc (.cells cx 25)) (.cells ((List.replicate 32 (Value.int .u8 0)).toArray) 25); rwa [World.size_alloc] at this)
  have HRX : Hid (W0.drew.heap[w.heap.size]? = some (.cells cx 25 (0, 0))) := Lib.hid (by
    rw [hW0]; exact (Below.heap_alloc _ _ _ (by simp)).trans (heap_alloc_last _ _))
  have HC0 : Hid (Up w W0.drew) := Lib.hid (by rw [hW0]; exact (((Chg.refl _ w).alloc _).alloc _).drew)
  clear hW0
  refine region_mono Up [fun v _ => v = .slice (some ⟨w.heap.size, 0, none⟩) 32 32,
      fun v _ => v = .int .i64 a,
      fun v w' => SlB w' v (num4 a),
      fun v _ => v = .int .i64 b,
      fun v w' => SlB w' v (num4 b),
      fun v w' => SlBB w' v [xs, num4 a, num4 b],
      fun v _ => v = hashV (shaI (3 :: (xs ++ num4 a ++ num4 b)))] (by kernel_rfl) (by kernel_rfl) (Chg.refl _) (fun _ _ _ => Chg.trans) (by simp) ?_ ?_ ?_
  · simp only [List.forall_mem_cons]
    exact ⟨fun _ _ _ _ _ h => h, fun _ _ _ _ _ h => h, fun _ _ _ _ hu h => SlB.up h hu, fun _ _ _ _ _ h => h, fun _ _ _ _ hu h => SlB.up h hu, fun _ _ _ _ hu h => SlBB.up h hu, fun _ _ _ _ _ h => h, by simp⟩
  · refine ⟨?_, ?_, ?_, ?_, ?_, ?_, ?_, trivial⟩
    · intro ρ w1 hw h0 hc hg hf hd
      have s3 : ρ (.tmp 3) = .pointer (some ⟨w.heap.size, 0, none⟩) := h0 3 (by kernel_rfl)
      refine ⟨fun _ => ?_, fun h => by cases h⟩
      clear h0 hg hd
      clear hc hf
      refine Gives.value (w' := w1) ?_ ⟨Chg.refl _ _, rfl⟩
      go_simp
    · intro ρ w1 hw h0 hc hg hf hd
      have s1 : ρ (.tmp 1) = .int .i64 a := h0 1 (by kernel_rfl)
      refine ⟨fun _ => ?_, fun h => by cases h⟩
      clear h0 hg hd
      exact gives_move rfl ⟨Chg.refl _ _, s1⟩
    · intro ρ w1 hw h0 hc hg hf hd
      have d1 := hd ⟨1, .data⟩ (by simp) rfl _ _ _ rfl rfl rfl
      refine ⟨fun _ => ?_, fun h => by cases h⟩
      clear h0 hg hd
      refine gives_call rfl hf Tryd.func67 rfl (by kernel_rfl) (args := #[.int .i64 a, .int .i64 4]) (by simp [hc, d1]) ((number4_any a w1 ha1 ha2).mono ?_)
      rintro e w2 ⟨A, c, rfl, ho, hb⟩
      exact ⟨_, rfl, up_below hb, own_src ho⟩
    · intro ρ w1 hw h0 hc hg hf hd
      have s2 : ρ (.tmp 2) = .int .i64 b := h0 2 (by kernel_rfl)
      refine ⟨fun _ => ?_, fun h => by cases h⟩
      clear h0 hg hd
      exact gives_move rfl ⟨Chg.refl _ _, s2⟩
    · intro ρ w1 hw h0 hc hg hf hd
      have d3 := hd ⟨3, .data⟩ (by simp) rfl _ _ _ rfl rfl rfl
      refine ⟨fun _ => ?_, fun h => by cases h⟩
      clear h0 hg hd
      refine gives_call rfl hf Tryd.func67 rfl (by kernel_rfl) (args := #[.int .i64 b, .int .i64 4]) (by simp [hc, d3]) ((number4_any b w1 hb1 hb2).mono ?_)
      rintro e w2 ⟨A, c, rfl, ho, hb⟩
      exact ⟨_, rfl, up_below hb, own_src ho⟩
    · intro ρ w1 hw h0 hc hg hf hd
      have d0 := hd ⟨0, .data⟩ (by simp) rfl _ _ _ rfl rfl rfl
      have d2 := hd ⟨2, .data⟩ (by simp) rfl _ _ _ rfl rfl rfl
      have d4 := hd ⟨4, .data⟩ (by simp) rfl _ _ _ rfl rfl rfl
      refine ⟨fun _ => ?_, fun h => by cases h⟩
      clear h0 hg hd
      clear hc hf
      have hs := rows3 w1 _ _ _ xs (num4 a) (num4 b) (row_src' HCX.out (hw.heap HRX.out (fun h => h)) HLX.out) HX.out d2 (num4_bytes a) d4 (num4_bytes b)
      obtain ⟨B2, c2, e2, _⟩ := d2.shape
      obtain ⟨B4, c4, e4, _⟩ := d4.shape
      rw [e2, e4] at hs
      clear d2 d4
      refine Gives.value ?_ ⟨(Chg.refl _ w1).alloc _, hs⟩
      clear hs
      go_simp
    · intro ρ w1 hw h0 hc hg hf hd
      have d5 := hd ⟨5, .data⟩ (by simp) rfl _ _ _ rfl rfl rfl
      refine ⟨fun _ => ?_, fun h => by cases h⟩
      clear h0 hg hd
      have hs := tagsum_any 3 _ _ w1 d5 (by omega) (by omega) (by simp [HLX.out, num4]) (HLA.out.up (HC0.out.trans hw))
      rw [show [xs, num4 a, num4 b].flatten = xs ++ num4 a ++ num4 b by simp] at hs
      have hs := hs
      refine gives_call rfl hf Tryd.func65 rfl (by kernel_rfl) (args := #[.int .i64 3, ρ (.tmp 12)]) (by simp [hc]) (hs.mono ?_)
      rintro e w2 ⟨rfl, hb⟩
      exact ⟨_, rfl, up_below hb, rfl⟩
  · intro vs w2 hw hr
    have h6 := hr 6 _ rfl
    clear hr
    dsimp only [putsL, restL]
    simp only [Act.put, List.setIfInBounds_toArray, List.set_cons_zero, List.set_cons_succ]
    rw [h6]
    clear h6
    have hr3 : w2.heap[w.heap.size + 1]? = some (.cells ((List.replicate 32 (Value.int .u8 0)).toArray) 25 (0, 0)) := hw.heap HR0.out (fun h => h)
    obtain ⟨hc, hhc, _, hone, hold, hsz, _⟩ := hash_parts _ (hash_size (3 :: (xs ++ num4 a ++ num4 b)))
    have H3 := Lib.hid hr3
    have HSZ := Lib.hid hsz
    have HON := Lib.hid hone
    have HOL := Lib.hid hold
    have HHC := Lib.hid hhc
    have HUP := Lib.hid (HC0.out.trans hw)
    rw [hhc]
    clear hr3 hsz hone hold hhc hw
    go_wp2_with (refine wpList_store_row rfl 25 (.tmp 6) (.tmp 13) rfl (w.heap.size + 1) hc (by rfl) (by rfl) 25 _ H3.out HSZ.out HOL.out HON.out ?_)
    have hset := setRow_same w2 (w.heap.size + 1) hc _ 25 (0, 0) H3.out
    refine bodyPost_ret (v := .agg hc) (results_cell_row rfl _ _ (w.heap.size + 1) 25 hc (0, 0) _ (by rfl) hset Tryd.underlying25 rfl HSZ.out) rfl ?_
    exact ⟨by rw [HHC.out], ((HUP.out.mono (T := fun i => w.heap.size ≤ i) (fun _ _ h => h.elim)).setRow (w.heap.size + 1) (.inl (by omega)) hc).below (Nat.le_refl _) (fun _ h => h)⟩
set_option maxRecDepth 100000 in
set_option maxHeartbeats 1000000 in
theorem record_any (xs ys : List Int) (v : Value) (w : World) (lx : xs.length = 32) (hx : Bytes xs) (h : SlB w v ys) (hy : Bytes ys) (hlen : ys.length ≤ 1000000) (hla : Laid w) :
    Calls Tryd.prog 35 #[hashV xs, v] w (SumPost (7 :: (xs ++ ys)) w) := by
  have hl2 := hla.lt
  obtain ⟨A, ac, rfl, _⟩ := h.shape
  obtain ⟨cx, hcx, hux, _, _, _, _⟩ := hash_parts xs lx
  rw [hcx]
  obtain ⟨W0, hW0⟩ : ∃ W0, W0 = (w.alloc (.cells cx 25)).alloc (.cells ((List.replicate 32 (Value.int .u8 0)).toArray) 25) := ⟨_, rfl⟩
  have HR0 : Hid (W0.heap[w.heap.size + 1]? = some (.cells ((List.replicate 32 (Value.int .u8 0)).toArray) 25 (0, 0))) := Lib.hid (by
    rw [hW0]; have := heap_alloc_last (w.alloc (.cells cx 25)) (.cells ((List.replicate 32 (Value.int .u8 0)).toArray) 25); rwa [World.size_alloc] at this)
  have HRX : Hid (W0.heap[w.heap.size]? = some (.cells cx 25 (0, 0))) := Lib.hid (by
    rw [hW0]; exact (Below.heap_alloc _ _ _ (by simp)).trans (heap_alloc_last _ _))
  have HC0 : Hid (Up w W0) := Lib.hid (by rw [hW0]; exact ((Chg.refl _ w).alloc _).alloc _)
  have hz : W0.heap.size = w.heap.size + 1 + 1 := by rw [hW0]; simp
  have hs := rows2 W0 _ _ xs ys (row_src' hux HRX.out lx) hx (h.up HC0.out) hy
  have hsum := tagsum_any 7 _ _ _ hs (by omega) (by omega) (by simp; omega) (hla.up (HC0.out.alloc _))
  rw [show [xs, ys].flatten = xs ++ ys by simp] at hsum
  have HS := Lib.hid hsum
  have HZ := Lib.hid hz
  have HW := Lib.hid hW0
  clear hcx hux hx lx hla hs hsum h hy hz hW0
  go_enter Tryd.func35, Tryd.ntmps35
  go_wp2_with fail
  rw [lit32, ← HW.out, ← HZ.out]
  refine HS.out.mono ?_
  rintro e w2 ⟨rfl, b3⟩
  have hw : Up W0 w2 := ((Chg.refl _ W0).alloc _).trans (up_below b3)
  clear b3
  have hr3 : w2.heap[w.heap.size + 1]? = some (.cells ((List.replicate 32 (Value.int .u8 0)).toArray) 25 (0, 0)) := hw.heap HR0.out (fun h => h)
  obtain ⟨hc, hhc, _, hone, hold, hsz, _⟩ := hash_parts _ (hash_size (7 :: (xs ++ ys)))
  have H3 := Lib.hid hr3
  have HSZ := Lib.hid hsz
  have HON := Lib.hid hone
  have HOL := Lib.hid hold
  have HHC := Lib.hid hhc
  have HUP := Lib.hid (HC0.out.trans hw)
  rw [hhc]
  clear hr3 hsz hone hold hhc hw
  go_wp2_with (refine wpList_store_row rfl 25 (.tmp 4) (.tmp 8) rfl (w.heap.size + 1) hc (by rfl) (by rfl) 25 _ H3.out HSZ.out HOL.out HON.out ?_)
  have hset := setRow_same w2 (w.heap.size + 1) hc _ 25 (0, 0) H3.out
  refine bodyPost_ret (v := .agg hc) (results_cell_row rfl _ _ (w.heap.size + 1) 25 hc (0, 0) _ (by rfl) hset Tryd.underlying25 rfl HSZ.out) rfl ?_
  exact ⟨by rw [HHC.out], ((HUP.out.mono (T := fun i => w.heap.size ≤ i) (fun _ _ h => h.elim)).setRow (w.heap.size + 1) (.inl (by omega)) hc).below (Nat.le_refl _) (fun _ h => h)⟩
end Go.Proofs.YtaahffminoekfaaDoor
