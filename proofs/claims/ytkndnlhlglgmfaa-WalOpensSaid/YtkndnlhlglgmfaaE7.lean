/-
  New, full, walked.
-/
import Derived.Test.YtkndnlhlglgmfaaE6
namespace Go.Proofs.Ytkndnlhlglgmfaa
open Go.RowKit
/-- A new disk. -/
def freshI (n size : Nat) : Dk := ⟨size, List.replicate n (List.replicate size 0), fun _ => none, -1, 0, false⟩
def FormOk (n size : Int) : Prop := 1 ≤ n ∧ n ≤ 65536 ∧ 16 ≤ size ∧ size ≤ 4096
theorem u8s_rep (n : Nat) (c : Int) : u8s (List.replicate n c) = List.replicate n (.int .u8 c) := by simp [u8s]
theorem set_rep {α : Type} (a b : α) (k n : Nat) (h : k < n) : (List.replicate k a ++ List.replicate (n - k) b).set k a = List.replicate (k + 1) a ++ List.replicate (n - (k + 1)) b := by
  apply List.ext_getElem?
  intro j
  by_cases hj : j = k
  · subst hj
    rw [List.getElem?_set_self (by simp; omega), List.getElem?_append_left (by simp)]
    simp
  · rw [List.getElem?_set_ne (fun e => hj e.symm)]
    by_cases hk : j < k
    · rw [List.getElem?_append_left (by simp; omega), List.getElem?_append_left (by simp; omega)]
      rw [List.getElem?_replicate, List.getElem?_replicate, if_pos hk, if_pos (by omega)]
    · rw [List.getElem?_append_right (by simp; omega), List.getElem?_append_right (by simp; omega)]
      simp [List.getElem?_replicate]
      split <;> split <;> first | rfl | omega
set_option maxRecDepth 100000 in
set_option maxHeartbeats 4000000 in
theorem full_any (w : World) (c : Int) : Calls Try.prog 48 #[.int .u8 c] w (fun e w' => ∃ v, e = .returned v ∧ w'.ownsRow w.heap.size 5 1 v 16 (u8s (List.replicate 16 c)) ∧ Below w.heap.size w w') := by
  obtain ⟨i5, hi, hz, hs, hb⟩ := info_parts (P := Try.prog) (e := 5) (z := .int .u8 0) (size := 1) (bytes := 1) (by kernel_rfl)
  go_enter Try.func48, Try.ntmps48
  go_wp2_with (refine wpList_make_full _ rfl (.const (.int .i64 16)) (.const (.int .i64 16)) 28 rfl w.heap.size 5 i5 _ 1 Try.underlying28 hi hz hs .i64 .i64 16 16 16 rfl rfl rfl rfl (by rw [hb]; omega) (by unfold maxLen; omega) (Nat.le_refl _) ?_; intro w1 hr1 hg1)
  obtain ⟨g, hg⟩ : ∃ g, g = w.heap.size := ⟨_, rfl⟩
  rw [← hg] at hr1 ⊢
  rw [show (madeCells (Value.int .u8 0).cells (16 * 1)).toList = List.replicate 16 (.int .u8 0) from toList_madeCells_one _ 16] at hr1
  have hu1 : Up w w1 := ((Chg.of_grownBy hg1).mono (fun i _ hi => by cases hi))
  have HR1 := Lib.hid hr1
  have HU1 := Lib.hid hu1
  have HG := Lib.hid hg
  clear hr1 hg1 hu1 hg hi hz hs hb
  go_loopw [8] (fun i wr => ∃ (k : Nat), k ≤ 16 ∧ i = .int .i64 k ∧ wr.ownsRow g 5 1 (.slice (some ⟨g, 0, none⟩) 16 16) 16 (List.replicate k (.int .u8 c) ++ List.replicate (16 - k) (.int .u8 0)) ∧ Chg (fun i => g ≤ i) w wr) (fun i _ => 16 - (intOf i).toNat)
  case atStart => exact ⟨0, by omega, rfl, HR1.out, HU1.out.mono (fun _ _ h => h.elim)⟩
  case round =>
    rename World => wr
    obtain ⟨k, hk, rfl, hrow, hch⟩ := hrel
    by_cases hk2 : k < 16
    · have hce := World.ownsRow.cells hrow rfl k _ (List.getElem?_eq_getElem (by simp; omega))
      rw [addr_add, Nat.zero_add] at hce
      have hfz : wr.frozen? ⟨g, k, none⟩ = false := World.ownsRow.frozenAt hrow k
      obtain ⟨hs1, hs2⟩ := World.ownsRow.stored hrow k (.int .u8 c)
      rw [set_rep _ _ _ _ hk2] at hs1
      have hlt : (k : Int) < 16 := by omega
      have HS1 := Lib.hid hs1
      have HCH := Lib.hid (hch.setCell ⟨g, k, none⟩ (.inl (Nat.le_refl _)) (.int .u8 c))
      clear hs1 hs2 hrow hch
      go_wp2_with fail
      exact ⟨⟨k + 1, by omega, by go_num, HS1.out, HCH.out⟩, by simp [intOf]; omega⟩
    · obtain rfl : k = 16 := by omega
      have HROW := Lib.hid hrow
      have HCH := Lib.hid hch
      clear hrow hch
      go_wp2_with fail
      go_ret
      refine ⟨_, rfl, ?_, HCH.out.below (by have := HG.out; omega) (fun i hi => by have := HG.out; omega)⟩
      rw [u8s_rep]
      have := HROW.out
      rw [← HG.out]
      simpa using this
def NewPost (w : World) (n size : Int) (e : Ending) (w' : World) : Prop :=
    (¬ FormOk n size ∧ e = .returned (.pointer none) ∧ w' = w) ∨
    (FormOk n size ∧ ∃ p b sv ss, e = .returned (.pointer (some ⟨p, 0, none⟩)) ∧ DiskAt w' p b 0 sv ss (fun _ => none) (freshI n.toNat size.toNat) ∧ Below w.heap.size w w' ∧ ∀ k, OwnD p b sv k → w.heap.size ≤ k)
set_option maxRecDepth 100000 in
set_option maxHeartbeats 4000000 in
theorem new_any (w : World) (n size : Int) (hn : I64 n) (hs : I64 size) : Calls Try.prog 11 #[.int .i64 n, .int .i64 size] w (NewPost w n size) := by
  by_cases h1 : n < 1
  · have HNO := Lib.hid (show ¬ FormOk n size by unfold FormOk; omega)
    go_enter Try.func11, Try.ntmps11
    go_wp2_with fail
    go_ret
    exact .inl ⟨HNO.out, rfl, rfl⟩
  by_cases h2 : 65536 < n
  · have HNO := Lib.hid (show ¬ FormOk n size by unfold FormOk; omega)
    go_enter Try.func11, Try.ntmps11
    go_wp2_with fail
    go_ret
    exact .inl ⟨HNO.out, rfl, rfl⟩
  by_cases h3 : size < 16
  · have HNO := Lib.hid (show ¬ FormOk n size by unfold FormOk; omega)
    go_enter Try.func11, Try.ntmps11
    go_wp2_with fail
    go_ret
    exact .inl ⟨HNO.out, rfl, rfl⟩
  by_cases h4 : 4096 < size
  · have HNO := Lib.hid (show ¬ FormOk n size by unfold FormOk; omega)
    go_enter Try.func11, Try.ntmps11
    go_wp2_with fail
    go_ret
    exact .inl ⟨HNO.out, rfl, rfl⟩
  have hall : 1 ≤ n ∧ n ≤ 65536 ∧ 16 ≤ size ∧ size ≤ 4096 := by omega
  obtain ⟨N, rfl⟩ : ∃ N : Nat, n = N := ⟨n.toNat, by omega⟩
  obtain ⟨Z, rfl⟩ : ∃ Z : Nat, size = Z := ⟨size.toNat, by omega⟩
  obtain ⟨i28, hi, hz, hs', hb⟩ := info_parts (P := Try.prog) (e := 28) (z := .slice none 0 0) (size := 1) (bytes := 24) (by kernel_rfl)
  obtain ⟨i5, hi5, hz5, hs5, hb5⟩ := info_parts (P := Try.prog) (e := 5) (z := .int .u8 0) (size := 1) (bytes := 1) (by kernel_rfl)
  have hm1 : i28.bytes * N ≤ 281474976710656 := by rw [hb]; omega
  have hm2 : N ≤ maxLen := by unfold maxLen; omega
  have hm3 : i5.bytes * Z ≤ 281474976710656 := by rw [hb5]; omega
  have hm4 : Z ≤ maxLen := by unfold maxLen; omega
  have hmk := fun w1 => run_makeMap (P := Try.prog) 79 w1
  go_enter Try.func11, Try.ntmps11
  go_wp2_with (refine wpList_make_full _ rfl (.tmp 23) (.tmp 23) 74 rfl w.heap.size 28 i28 _ 1 Try.underlying74 hi hz hs' .i64 .i64 N N N rfl rfl rfl rfl hm1 hm2 (Nat.le_refl _) ?_; intro w1 hr1 hg1)
  obtain ⟨g, hg⟩ : ∃ g, g = w.heap.size := ⟨_, rfl⟩
  rw [← hg] at hr1 ⊢
  rw [show (madeCells (Value.slice none 0 0).cells (N * 1)).toList = List.replicate N (.slice none 0 0) from by rw [Nat.mul_one]; exact toList_madeCells_one _ _] at hr1
  have hu1 : Up w w1 := ((Chg.of_grownBy hg1).mono (fun i _ hi => by cases hi))
  have HR1 := Lib.hid hr1
  have HU1 := Lib.hid hu1
  have HG := Lib.hid hg
  clear hr1 hg1 hu1 hg hi hz hs' hb hm1 hm2
  obtain ⟨b, hb⟩ : ∃ b, b = w1.heap.size := ⟨_, rfl⟩
  obtain ⟨p, hp⟩ : ∃ p, p = w1.heap.size + 1 := ⟨_, rfl⟩
  rw [← hp, ← hb]
  obtain ⟨W3, hW3⟩ : ∃ W3, W3 = (w1.alloc (.map #[] 0)).alloc (.cells #[.int .i64 Z, .slice (some ⟨g, 0, none⟩) N N, .map (some b), .int .i64 (-1), .int .i64 0, .bool false] 81) := ⟨_, rfl⟩
  rw [← hW3]
  have hu3 : Up w1 W3 := by rw [hW3]; exact ((Chg.refl _ w1).alloc _).alloc _
  have hobj3 : W3.heap[p]? = some (.cells #[.int .i64 Z, .slice (some ⟨g, 0, none⟩) N N, .map (some b), .int .i64 (-1), .int .i64 0, .bool false] 81 (0, 0)) := by
    rw [hW3, hp, show w1.heap.size + 1 = (w1.alloc (.map #[] 0)).heap.size by simp]
    exact heap_alloc_last _ _
  have hmap3 : CacheAt W3 b 0 (fun _ => none) := by
    rw [hW3, hb]
    exact (cache_new w1).chg ((Chg.refl (fun _ => False) _).alloc _) (fun h => h)
  have hsz3 : W3.heap.size = p + 1 := by rw [hW3, hp]; simp
  have hrow3 := own_chg HR1.out hu3 (fun _ _ h => h)
  have hgb : g < b := by
    obtain ⟨cu, fu, hgu⟩ := own_type HR1.out g rfl
    have := (Array.getElem?_eq_some_iff.1 hgu).1
    omega
  obtain ⟨W4, hrun, hr4, hg4⟩ := run_make_full (P := Try.prog) W3 0 28 5 i5 _ 1 Try.underlying28 hi5 hz5 hs5 .i64 .i64 Z hm3 hm4 (Nat.zero_le _)
  rw [hrun]
  rw [show (madeCells (Value.int .u8 0).cells (Z * 1)).toList = List.replicate Z (.int .u8 0) from by rw [Nat.mul_one]; exact toList_madeCells_one _ _] at hr4
  have hu4 : Up W3 W4 := ((Chg.of_grownBy hg4).mono (fun i _ hi => by cases hi))
  obtain ⟨q, hq⟩ : ∃ q, q = W3.heap.size := ⟨_, rfl⟩
  rw [← hq] at hr4 ⊢
  have hobj4 := hu4.heap hobj3 (fun h => h)
  have hrow4 := own_chg hrow3 hu4 (fun _ _ h => h)
  have hmap4 := hmap3.chg hu4 (fun h => h)
  have hch4 : Chg (fun i => w.heap.size ≤ i) w W4 := (HU1.out.then (hu3.then hu4 (fun i hi => hi.elim)) (fun i hi => hi.elim)).mono (fun i _ hi => hi.elim)
  have HO4 := Lib.hid hobj4
  have HROW4 := Lib.hid hrow4
  have HMAP4 := Lib.hid hmap4
  have HCH4 := Lib.hid hch4
  have HDAT := Lib.hid hr4
  have HPB := Lib.hid (show g < b ∧ b < p ∧ p < q by omega)
  have q1 := cell_of_row W4 p 1 _ _ _ hobj4
  clear hb hp hW3 hu3 hobj3 hmap3 hsz3 hrow3 hgb hrun hr4 hu4 hg4 hobj4 hrow4 hmap4 hch4 HR1 HU1 hq
  simp only [Result.andThen_ok]
  go_wp2_with fail
  go_loopw [35] (fun i wr => ∃ (k : Nat), k ≤ N ∧ i = .int .i64 k ∧ wr.ownsRow g 28 1 (.slice (some ⟨g, 0, none⟩) N N) N (List.replicate k (.slice (some ⟨q, 0, none⟩) Z Z) ++ List.replicate (N - k) (.slice none 0 0)) ∧ Chg (fun i => i = g) W4 wr) (fun i _ => N - (intOf i).toNat)
  case atStart => exact ⟨0, by omega, rfl, HROW4.out, Chg.refl _ _⟩
  case round =>
    rename World => wr
    obtain ⟨k, hk, rfl, hrow, hch⟩ := hrel
    by_cases hk2 : (k : Int) < N
    · have hk2' : k < N := by omega
      have hce := World.ownsRow.cells hrow rfl k _ (List.getElem?_eq_getElem (by simp; omega))
      rw [addr_add, Nat.zero_add] at hce
      have hfz : wr.frozen? ⟨g, k, none⟩ = false := World.ownsRow.frozenAt hrow k
      obtain ⟨hs1, hs2⟩ := World.ownsRow.stored hrow k (.slice (some ⟨q, 0, none⟩) Z Z)
      rw [set_rep _ _ _ _ hk2'] at hs1
      have p1 := hch.cell q1 (fun e => by have := HPB.out; dsimp only at e; omega)
      have HS1 := Lib.hid hs1
      have HCH := Lib.hid (hch.setCell ⟨g, k, none⟩ (.inl rfl) (.slice (some ⟨q, 0, none⟩) Z Z))
      clear hs1 hs2 hrow hch
      go_wp2_with fail
      exact ⟨⟨k + 1, by omega, by go_num, HS1.out, HCH.out⟩, by simp [intOf]; omega⟩
    · obtain rfl : k = N := by omega
      have HROW := Lib.hid hrow
      have HCH := Lib.hid hch
      clear hrow hch
      go_wp2_with fail
      go_ret
      refine .inr ⟨by unfold FormOk; omega, p, b, .slice (some ⟨g, 0, none⟩) k k, List.replicate k (.slice (some ⟨q, 0, none⟩) Z Z), rfl, ?_, ?_, ?_⟩
      · have hpb := HPB.out
        rw [Int.toNat_natCast, Int.toNat_natCast]
        refine ⟨HCH.out.heap HO4.out (by omega), ?_, by simp [freshI], fun j hj => ?_, HMAP4.out.chg HCH.out (by omega), fun i v hv => (by cases hv), fun i _ => rfl⟩
        · have := HROW.out
          simp only [Nat.sub_self, List.replicate_zero, List.append_nil] at this
          rw [List.length_replicate]
          exact own_base this (Nat.zero_le _)
        · simp only [freshI, List.length_replicate] at hj ⊢
          rw [List.getD_eq_getElem?_getD, List.getD_eq_getElem?_getD, List.getElem?_replicate, List.getElem?_replicate, if_pos hj, if_pos hj]
          have := own_chg HDAT.out HCH.out (fun k hk => by simp [Value.ownBlock] at hk; omega)
          unfold DatB
          simp only [Option.getD_some, List.length_replicate]
          rw [u8s_rep]
          exact this
      · exact (HCH4.out.then HCH.out (fun i hi => .inr (by have := HG.out; omega))).below (Nat.le_refl _) (fun _ h => h)
      · intro k hk
        have hpb := HPB.out
        have := HG.out
        rcases hk with rfl | rfl | hk
        · omega
        · omega
        · simp [Value.ownBlock] at hk; omega
end Go.Proofs.Ytkndnlhlglgmfaa
