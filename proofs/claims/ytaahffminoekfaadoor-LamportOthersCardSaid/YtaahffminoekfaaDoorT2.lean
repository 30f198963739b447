/-
  Leaves, messages, files, records, nodes: walked.
-/
import Derived.Test.YtaahffminoekfaaDoorT1
import Derived.Test.YtaahffminoekfaaDoorO1
namespace Go.Proofs.YtaahffminoekfaaDoor
open Go.RowKit
theorem rows_slbb (W : World) (vs : List Value) (ls : List (List Int)) (hl : vs.length = ls.length) (hm : ls.length ≤ 1000) (h : ∀ r, r < ls.length → SlB W (vs.getD r (.int .u8 0)) (ls.getD r []) ∧ Bytes (ls.getD r [])) :
    SlBB (W.alloc (.cells vs.toArray 22)) (.slice (some ⟨W.heap.size, 0, none⟩) ls.length ls.length) ls := by
  refine .inr ⟨⟨W.heap.size, 0, none⟩, ls.length, fun r => vs.getD r (.int .u8 0), rfl, Nat.le_refl _, by unfold maxLen; omega, fun r hr => ⟨?_, ?_, (h r hr).2⟩⟩
  · rw [addr_add, cell_of_row _ _ _ _ _ _ (heap_alloc_last W _)]
    simp [List.getD_eq_getElem?_getD, List.getElem?_eq_getElem (show r < vs.length by omega)]
  · exact (h r hr).1.chg ((Chg.refl (fun _ => False) W).alloc _) (fun _ _ h => h)
theorem rows1 (W : World) (v : Value) (xs : List Int) (h : SlB W v xs) (hb : Bytes xs) : SlBB (W.alloc (.cells #[v] 22)) (.slice (some ⟨W.heap.size, 0, none⟩) 1 1) [xs] :=
  rows_slbb W [v] [xs] rfl (by simp) (fun r hr => by
    obtain rfl : r = 0 := by simpa using hr
    exact ⟨h, hb⟩)
theorem rows2 (W : World) (v u : Value) (xs ys : List Int) (h : SlB W v xs) (hb : Bytes xs) (k : SlB W u ys) (kb : Bytes ys) : SlBB (W.alloc (.cells #[v, u] 22)) (.slice (some ⟨W.heap.size, 0, none⟩) 2 2) [xs, ys] :=
  rows_slbb W [v, u] [xs, ys] rfl (by simp) (fun r hr => by
    match r, hr with
    | 0, _ => exact ⟨h, hb⟩
    | 1, _ => exact ⟨k, kb⟩
    | r + 2, hr => simp at hr; omega)
theorem rows3 (W : World) (v u t : Value) (xs ys zs : List Int) (h : SlB W v xs) (hb : Bytes xs) (k : SlB W u ys) (kb : Bytes ys) (m : SlB W t zs) (mb : Bytes zs) : SlBB (W.alloc (.cells #[v, u, t] 22)) (.slice (some ⟨W.heap.size, 0, none⟩) 3 3) [xs, ys, zs] :=
  rows_slbb W [v, u, t] [xs, ys, zs] rfl (by simp) (fun r hr => by
    match r, hr with
    | 0, _ => exact ⟨h, hb⟩
    | 1, _ => exact ⟨k, kb⟩
    | 2, _ => exact ⟨m, mb⟩
    | r + 3, hr => simp at hr; omega)
/-- What is needed of an array that is stored whole. -/
theorem hash_parts (h : List Int) (hl : h.length = 32) : ∃ hc, hashV h = .agg hc ∧ (u8s h).toArray = hc ∧ hc.all (·.oneCell') = true ∧ ((List.replicate 32 (Value.int .u8 0)).toArray).size = hc.size ∧ (Tryd.prog.info? 25).map (·.size) = some hc.size ∧ hc.size = 32 :=
  ⟨_, rfl, rfl, all_one (u8s_one _), by simp [u8s, hl], u8s_size hl, by simp [u8s, hl]⟩
set_option maxRecDepth 100000 in
set_option maxHeartbeats 1000000 in
theorem leaf_any (v : Value) (xs : List Int) (w : World) (h : SlB w v xs) (hb : Bytes xs) (hlen : xs.length ≤ 10000000) (hla : Laid w) :
    Calls Tryd.prog 31 #[v] w (SumPost (0 :: xs) w) := by
  have hl2 := hla.lt
  obtain ⟨A, ac, rfl, _⟩ := h.shape
  have HV := Lib.hid h
  have HB := Lib.hid hb
  have HLA := Lib.hid hla
  have HLEN := Lib.hid hlen
  clear h hla hlen hb
  go_enter Tryd.func31, Tryd.ntmps31
  go_wp2_with fail
  rw [lit32]
  obtain ⟨W0, hW0⟩ : ∃ W0, W0 = w.alloc (.cells ((List.replicate 32 (Value.int .u8 0)).toArray) 25) := ⟨_, rfl⟩
  have c0 : Chg (fun _ => False) w W0 := by rw [hW0]; exact (Chg.refl _ w).alloc _
  have hz0 : W0.heap.size = w.heap.size + 1 := by rw [hW0]; simp
  have hr0 : W0.heap[w.heap.size]? = some (.cells ((List.replicate 32 (Value.int .u8 0)).toArray) 25 (0, 0)) := by rw [hW0, heap_alloc_last]
  rw [← hW0, ← hz0]
  have hs1 := rows1 W0 _ xs (HV.out.chg c0 (fun _ _ h => h)) HB.out
  have c1 : Chg (fun _ => False) w (W0.alloc (.cells #[.slice A xs.length ac] 22)) := c0.alloc _
  have hsum := tagsum_any 0 _ _ _ hs1 (by omega) (by omega) (by simpa using HLEN.out) (HLA.out.chg c1 (fun h => h) (fun h => h))
  rw [List.flatten_singleton] at hsum
  refine hsum.mono ?_
  rintro e W3 ⟨rfl, b3⟩
  have hr3 : W3.heap[w.heap.size]? = some (.cells ((List.replicate 32 (Value.int .u8 0)).toArray) 25 (0, 0)) := (b3.block _ (by simp; omega)).trans ((Below.heap_alloc _ _ _ (by omega)).trans hr0)
  obtain ⟨hc, hhc, _, hone, hold, hsz, _⟩ := hash_parts (shaI (0 :: xs)) (hash_size _)
  have HB3 := Lib.hid (c1.then (Chg.of_below b3 (fun _ => False)) (fun _ h => h.elim))
  have H3 := Lib.hid hr3
  have HSZ := Lib.hid hsz
  have HON := Lib.hid hone
  have HOL := Lib.hid hold
  have HHC := Lib.hid hhc
  unfold SumPost
  rw [hhc]
  clear hr3 b3 hsz hone hold hhc hs1 c1 c0 hr0 hsum hW0 hz0
  go_wp2_with (refine wpList_store_row rfl 25 (.tmp 2) (.tmp 5) rfl w.heap.size hc (by rfl) (by rfl) 25 _ H3.out HSZ.out HOL.out HON.out ?_)
  have hset := setRow_same W3 w.heap.size hc _ 25 (0, 0) H3.out
  refine bodyPost_ret (v := .agg hc) (results_cell_row rfl _ _ w.heap.size 25 hc (0, 0) _ (by rfl) hset Tryd.underlying25 rfl HSZ.out) rfl ?_
  exact ⟨by rw [HHC.out], ((HB3.out.mono (T := fun i => w.heap.size ≤ i) (fun _ _ h => h.elim)).setRow w.heap.size (.inl (Nat.le_refl _)) hc).below (Nat.le_refl _) (fun _ h => h)⟩
set_option maxRecDepth 100000 in
set_option maxHeartbeats 1000000 in
theorem message_any (v : Value) (xs : List Int) (w : World) (h : SlB w v xs) (hb : Bytes xs) (hlen : xs.length ≤ 10000000) (hla : Laid w) :
    Calls Tryd.prog 33 #[v] w (SumPost (5 :: xs) w) := by
  have hl2 := hla.lt
  obtain ⟨A, ac, rfl, _⟩ := h.shape
  have HV := Lib.hid h
  have HB := Lib.hid hb
  have HLA := Lib.hid hla
  have HLEN := Lib.hid hlen
  clear h hla hlen hb
  go_enter Tryd.func33, Tryd.ntmps33
  go_wp2_with fail
  rw [lit32]
  obtain ⟨W0, hW0⟩ : ∃ W0, W0 = w.alloc (.cells ((List.replicate 32 (Value.int .u8 0)).toArray) 25) := ⟨_, rfl⟩
  have c0 : Chg (fun _ => False) w W0 := by rw [hW0]; exact (Chg.refl _ w).alloc _
  have hz0 : W0.heap.size = w.heap.size + 1 := by rw [hW0]; simp
  have hr0 : W0.heap[w.heap.size]? = some (.cells ((List.replicate 32 (Value.int .u8 0)).toArray) 25 (0, 0)) := by rw [hW0, heap_alloc_last]
  rw [← hW0, ← hz0]
  have hs1 := rows1 W0 _ xs (HV.out.chg c0 (fun _ _ h => h)) HB.out
  have c1 : Chg (fun _ => False) w (W0.alloc (.cells #[.slice A xs.length ac] 22)) := c0.alloc _
  have hsum := tagsum_any 5 _ _ _ hs1 (by omega) (by omega) (by simpa using HLEN.out) (HLA.out.chg c1 (fun h => h) (fun h => h))
  rw [List.flatten_singleton] at hsum
  refine hsum.mono ?_
  rintro e W3 ⟨rfl, b3⟩
  have hr3 : W3.heap[w.heap.size]? = some (.cells ((List.replicate 32 (Value.int .u8 0)).toArray) 25 (0, 0)) := (b3.block _ (by simp; omega)).trans ((Below.heap_alloc _ _ _ (by omega)).trans hr0)
  obtain ⟨hc, hhc, _, hone, hold, hsz, _⟩ := hash_parts (shaI (5 :: xs)) (hash_size _)
  have HB3 := Lib.hid (c1.then (Chg.of_below b3 (fun _ => False)) (fun _ h => h.elim))
  have H3 := Lib.hid hr3
  have HSZ := Lib.hid hsz
  have HON := Lib.hid hone
  have HOL := Lib.hid hold
  have HHC := Lib.hid hhc
  unfold SumPost
  rw [hhc]
  clear hr3 b3 hsz hone hold hhc hs1 c1 c0 hr0 hsum hW0 hz0
  go_wp2_with (refine wpList_store_row rfl 25 (.tmp 2) (.tmp 5) rfl w.heap.size hc (by rfl) (by rfl) 25 _ H3.out HSZ.out HOL.out HON.out ?_)
  have hset := setRow_same W3 w.heap.size hc _ 25 (0, 0) H3.out
  refine bodyPost_ret (v := .agg hc) (results_cell_row rfl _ _ w.heap.size 25 hc (0, 0) _ (by rfl) hset Tryd.underlying25 rfl HSZ.out) rfl ?_
  exact ⟨by rw [HHC.out], ((HB3.out.mono (T := fun i => w.heap.size ≤ i) (fun _ _ h => h.elim)).setRow w.heap.size (.inl (Nat.le_refl _)) hc).below (Nat.le_refl _) (fun _ h => h)⟩
set_option maxRecDepth 100000 in
set_option maxHeartbeats 1000000 in
theorem file_any (v : Value) (xs : List Int) (w : World) (h : SlB w v xs) (hb : Bytes xs) (hlen : xs.length ≤ 10000000) (hla : Laid w) :
    Calls Tryd.prog 34 #[v] w (SumPost (6 :: xs) w) := by
  have hl2 := hla.lt
  obtain ⟨A, ac, rfl, _⟩ := h.shape
  have HV := Lib.hid h
  have HB := Lib.hid hb
  have HLA := Lib.hid hla
  have HLEN := Lib.hid hlen
  clear h hla hlen hb
  go_enter Tryd.func34, Tryd.ntmps34
  go_wp2_with fail
  rw [lit32]
  obtain ⟨W0, hW0⟩ : ∃ W0, W0 = w.alloc (.cells ((List.replicate 32 (Value.int .u8 0)).toArray) 25) := ⟨_, rfl⟩
  have c0 : Chg (fun _ => False) w W0 := by rw [hW0]; exact (Chg.refl _ w).alloc _
  have hz0 : W0.heap.size = w.heap.size + 1 := by rw [hW0]; simp
  have hr0 : W0.heap[w.heap.size]? = some (.cells ((List.replicate 32 (Value.int .u8 0)).toArray) 25 (0, 0)) := by rw [hW0, heap_alloc_last]
  rw [← hW0, ← hz0]
  have hs1 := rows1 W0 _ xs (HV.out.chg c0 (fun _ _ h => h)) HB.out
  have c1 : Chg (fun _ => False) w (W0.alloc (.cells #[.slice A xs.length ac] 22)) := c0.alloc _
  have hsum := tagsum_any 6 _ _ _ hs1 (by omega) (by omega) (by simpa using HLEN.out) (HLA.out.chg c1 (fun h => h) (fun h => h))
  rw [List.flatten_singleton] at hsum
  refine hsum.mono ?_
  rintro e W3 ⟨rfl, b3⟩
  have hr3 : W3.heap[w.heap.size]? = some (.cells ((List.replicate 32 (Value.int .u8 0)).toArray) 25 (0, 0)) := (b3.block _ (by simp; omega)).trans ((Below.heap_alloc _ _ _ (by omega)).trans hr0)
  obtain ⟨hc, hhc, _, hone, hold, hsz, _⟩ := hash_parts (shaI (6 :: xs)) (hash_size _)
  have HB3 := Lib.hid (c1.then (Chg.of_below b3 (fun _ => False)) (fun _ h => h.elim))
  have H3 := Lib.hid hr3
  have HSZ := Lib.hid hsz
  have HON := Lib.hid hone
  have HOL := Lib.hid hold
  have HHC := Lib.hid hhc
  unfold SumPost
  rw [hhc]
  clear hr3 b3 hsz hone hold hhc hs1 c1 c0 hr0 hsum hW0 hz0
  go_wp2_with (refine wpList_store_row rfl 25 (.tmp 2) (.tmp 5) rfl w.heap.size hc (by rfl) (by rfl) 25 _ H3.out HSZ.out HOL.out HON.out ?_)
  have hset := setRow_same W3 w.heap.size hc _ 25 (0, 0) H3.out
  refine bodyPost_ret (v := .agg hc) (results_cell_row rfl _ _ w.heap.size 25 hc (0, 0) _ (by rfl) hset Tryd.underlying25 rfl HSZ.out) rfl ?_
  exact ⟨by rw [HHC.out], ((HB3.out.mono (T := fun i => w.heap.size ≤ i) (fun _ _ h => h.elim)).setRow w.heap.size (.inl (Nat.le_refl _)) hc).below (Nat.le_refl _) (fun _ h => h)⟩
end Go.Proofs.YtaahffminoekfaaDoor
