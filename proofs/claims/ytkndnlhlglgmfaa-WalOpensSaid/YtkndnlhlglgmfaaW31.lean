/-
  The document's numbers, Join, Head, Read: walked.
-/
import Derived.Test.YtkndnlhlglgmfaaW30
namespace Go.Proofs.Ytkndnlhlglgmfaa
open Go.RowKit
/-- A number, shifted again and again. -/
def dv (n : Int) : Nat → Int
  | 0 => n
  | k + 1 => dv n k / 256
def lowB (n : Int) : Nat → List Int
  | 0 => []
  | k + 1 => (dv n k % 256) :: lowB n k
theorem lowB_len (n : Int) : ∀ k, (lowB n k).length = k
  | 0 => rfl
  | k + 1 => by simp [lowB, lowB_len n k]
theorem set_mid {α : Type} (a x : α) (l : List α) : ∀ m, (List.replicate (m + 1) a ++ l).set m x = List.replicate m a ++ x :: l
  | 0 => by simp
  | m + 1 => by
    rw [List.replicate_succ, List.cons_append, List.set_cons_succ, set_mid a x l m, List.replicate_succ, List.cons_append]
theorem dv_bd (n : Int) (hn : I64 n) : ∀ k, I64 (dv n k)
  | 0 => hn
  | k + 1 => by
    have := dv_bd n hn k
    unfold I64 at this ⊢
    show -9223372036854775808 ≤ dv n k / 256 ∧ _
    have : dv n (k + 1) = dv n k / 256 := rfl
    rw [this]
    omega
theorem lowB_be8 (n : Int) : lowB n 8 = be8 n 8 := by
  have e : be8 n 8 = [n / 2 ^ 56 % 256, n / 2 ^ 48 % 256, n / 2 ^ 40 % 256, n / 2 ^ 32 % 256, n / 2 ^ 24 % 256, n / 2 ^ 16 % 256, n / 2 ^ 8 % 256, n / 2 ^ 0 % 256] := by
    unfold be8
    simp only [List.range_succ, List.range_zero, List.nil_append, List.cons_append, List.map_cons, List.map_nil]
    rfl
  have s : ∀ (a : Int) (j : Nat), n / 2 ^ (8 * j) = a → n / 2 ^ (8 * (j + 1)) = a / 256 := fun a j h => by
    rw [← h, Int.ediv_ediv_of_nonneg (Int.le_of_lt (Int.pow_pos (by decide)))]
    congr 1
    rw [show 8 * (j + 1) = 8 * j + 8 by omega, Int.pow_add]
    rfl
  have h0 : n / 2 ^ (8 * 0) = dv n 0 := by simp [dv]
  have h1 := s _ 0 h0
  have h2 := s _ 1 h1
  have h3 := s _ 2 h2
  have h4 := s _ 3 h3
  have h5 := s _ 4 h4
  have h6 := s _ 5 h5
  have h7 := s _ 6 h6
  rw [e]
  show [dv n 7 % 256, dv n 6 % 256, dv n 5 % 256, dv n 4 % 256, dv n 3 % 256, dv n 2 % 256, dv n 1 % 256, dv n 0 % 256] = _
  rw [show n / 2 ^ 56 = dv n 7 from h7, show n / 2 ^ 48 = dv n 6 from h6, show n / 2 ^ 40 = dv n 5 from h5, show n / 2 ^ 32 = dv n 4 from h4, show n / 2 ^ 24 = dv n 3 from h3, show n / 2 ^ 16 = dv n 2 from h2, show n / 2 ^ 8 = dv n 1 from h1, show n / 2 ^ 0 = dv n 0 from h0]
set_option maxRecDepth 100000 in
set_option maxHeartbeats 4000000 in
theorem num8_any (w : World) (n : Int) (hn : I64 n) : Calls Try.prog 89 #[.int .i64 n, .int .i64 8] w (fun e w' => ∃ v, e = .returned v ∧ w'.ownsRow w.heap.size 5 1 v 8 (u8s (be8 n 8)) ∧ Below w.heap.size w w') := by
  obtain ⟨i5, hi, hz, hs, hb⟩ := info_parts (P := Try.prog) (e := 5) (z := .int .u8 0) (size := 1) (bytes := 1) (by kernel_rfl)
  have HBD := Lib.hid (dv_bd n hn)
  clear hn
  go_enter Try.func89, Try.ntmps89
  go_wp2_with (refine wpList_make_full _ rfl (.tmp 7) (.tmp 7) 28 rfl w.heap.size 5 i5 _ 1 Try.underlying28 hi hz hs .i64 .i64 8 8 8 rfl rfl rfl rfl (by rw [hb]; omega) (by unfold maxLen; omega) (Nat.le_refl _) ?_; intro w1 hr1 hg1)
  obtain ⟨g, hg⟩ : ∃ g, g = w.heap.size := ⟨_, rfl⟩
  rw [← hg] at hr1 ⊢
  rw [show (madeCells (Value.int .u8 0).cells (8 * 1)).toList = u8s (List.replicate 8 0) from by
    rw [u8s_rep]; exact toList_madeCells_one _ 8] at hr1
  have HR1 := Lib.hid hr1
  have HU1 : Hid (Up w w1) := Lib.hid ((Chg.of_grownBy hg1).mono (fun i _ hi => by cases hi))
  have HG := Lib.hid hg
  clear hr1 hg1 hg hi hz hs hb
  go_loopw [0, 6] (fun nv i wr => ∃ (k : Nat), k ≤ 8 ∧ i = .int .i64 (7 - (k : Int)) ∧ nv = .int .i64 (dv n k) ∧ wr.ownsRow g 5 1 (.slice (some ⟨g, 0, none⟩) 8 8) 8 (u8s (List.replicate (8 - k) 0 ++ lowB n k)) ∧ Chg (fun i => g ≤ i) w wr) (fun _ i _ => (intOf i + 1).toNat)
  case atStart => exact ⟨0, by omega, by simp, rfl, by simpa [lowB] using HR1.out, HU1.out.mono (fun _ _ h => h.elim)⟩
  case round =>
    rename World => wr
    obtain ⟨k, hk, rfl, rfl, hrow, hch⟩ := hrel
    by_cases hk2 : k < 8
    · obtain ⟨m, hm⟩ : ∃ m, 8 - k = m + 1 := ⟨7 - k, by omega⟩
      obtain ⟨hz1, hz2⟩ := HBD.out k
      obtain ⟨z, hz⟩ : ∃ z, dv n k = z := ⟨_, rfl⟩
      have hlow : lowB n (k + 1) = (z % 256) :: lowB n k := by rw [← hz]; rfl
      have hnx : dv n (k + 1) = z / 256 := by rw [← hz]; rfl
      rw [hz] at hz1 hz2 ⊢
      rw [hm] at hrow
      have hce := World.ownsRow.cells hrow rfl m _ (u8s_at (by simp; omega))
      rw [addr_add, Nat.zero_add] at hce
      have hfz : wr.frozen? ⟨g, m, none⟩ = false := World.ownsRow.frozenAt hrow m
      obtain ⟨hs1, _⟩ := World.ownsRow.stored hrow m (.int .u8 (z % 256))
      rw [u8s_set, set_mid, ← hlow] at hs1
      have hwz := wrap_u8 z
      have hd : (7 : Int) - (k : Int) = (m : Int) := by omega
      rw [hd]
      obtain ⟨old, hold⟩ : ∃ old, (List.replicate (m + 1) (0 : Int) ++ lowB n k).getD m 0 = old := ⟨_, rfl⟩
      rw [hold] at hce
      have hm8 : (m : Int) < 8 := by omega
      have HS1 := Lib.hid hs1
      have HCH := Lib.hid (hch.setCell ⟨g, m, none⟩ (.inl (Nat.le_refl _)) (.int .u8 (z % 256)))
      have HNX := Lib.hid hnx
      have HZ := Lib.hid hz
      have HM := Lib.hid hm
      have HD := Lib.hid hd
      clear hs1 hrow hch hlow hnx hold hz hm hd
      go_wp2_with fail
      refine ⟨⟨k + 1, by omega, ?_, by rw [HNX.out], ?_, HCH.out⟩, by simp [intOf] <;> omega⟩
      · have := HD.out
        rw [show (7 : Int) - ((k + 1 : Nat) : Int) = (m : Int) - 1 by omega]
      · have := HM.out
        rw [show 8 - (k + 1) = m by omega]
        exact HS1.out
    · obtain rfl : k = 8 := by omega
      have HROW := Lib.hid hrow
      have HCH := Lib.hid hch
      clear hrow hch
      go_wp2_with fail
      go_ret
      refine ⟨_, rfl, ?_, HCH.out.below (by have := HG.out; omega) (fun i hi => by have := HG.out; omega)⟩
      have := HROW.out
      rw [Nat.sub_self, List.replicate_zero, List.nil_append, lowB_be8] at this
      rw [← HG.out]
      exact this
set_option maxRecDepth 100000 in
set_option maxHeartbeats 4000000 in
theorem rint_any (w : World) (n : Int) (hn : I64 n) : Calls Try.prog 75 #[.int .i64 n] w (fun e w' => ∃ v, e = .returned v ∧ w'.ownsRow w.heap.size 5 1 v 8 (u8s (be8 n 8)) ∧ Below w.heap.size w w') := by
  have H := Lib.hid (num8_any w n hn)
  clear hn
  go_enter Try.func75, Try.ntmps75
  go_wp2_with fail
  refine H.out.mono ?_
  rintro e w1 ⟨v, rfl, hr, hb⟩
  obtain ⟨A, c, rfl⟩ := own_shape hr
  have HR := Lib.hid hr
  have HB := Lib.hid hb
  clear hr hb H
  go_wp2_with fail
  go_ret
  exact ⟨_, rfl, HR.out, HB.out⟩
set_option maxRecDepth 100000 in
set_option maxHeartbeats 4000000 in
/-- Rows one behind the other. -/
theorem join_any (w : World) (v : Value) (ds : List Value) (xs : List (List Int)) (h : Src w v 1 xs.length ds) (hd : ∀ j, j < xs.length → SlB w (ds.getD j undef) (xs.getD j [])) (hn : xs.length ≤ 100) (hl : ∀ j, j < xs.length → (xs.getD j []).length ≤ 10000) :
    Calls Try.prog 74 #[v] w (fun e w' => ∃ r, e = .returned r ∧ w'.ownsRow w.heap.size 5 1 r xs.flatten.length (u8s xs.flatten) ∧ Below w.heap.size w w') := by
  have hsh : ∃ A c, v = .slice A xs.length c ∧ xs.length ≤ c := by
    rcases h with ⟨rfl, h, _⟩ | ⟨a, c, rfl, _, h1, _, _⟩
    · rw [h]; exact ⟨none, 0, rfl, Nat.le_refl _⟩
    · exact ⟨_, c, rfl, h1⟩
  obtain ⟨A, c, rfl, hc1⟩ := hsh
  have hlen := h.len
  have H := Lib.hid h
  have HD := Lib.hid hd
  have HL := Lib.hid hl
  have hfl : ∀ k, k ≤ xs.length → (xs.take k).flatten.length ≤ 10000 * k := by
    intro k
    induction k with
    | zero => intro _; simp
    | succ k ih =>
      intro hk
      have := ih (by omega)
      have h2 := hl k (by omega)
      rw [List.take_add_one, List.getElem?_eq_getElem (show k < xs.length by omega), List.flatten_append, List.length_append]
      rw [List.getD_eq_getElem?_getD, List.getElem?_eq_getElem (show k < xs.length by omega)] at h2
      simp at h2 ⊢
      simp at this
      omega
  have HFL := Lib.hid hfl
  obtain ⟨F, hF⟩ : ∃ F, xs.flatten = F := ⟨_, rfl⟩
  rw [hF]
  have HF := Lib.hid hF
  clear h hd hl hfl hF
  go_enter Try.func74, Try.ntmps74
  go_wp2_with fail
  go_loopw [3, 4] (fun o i wr => ∃ (k c : Nat) (B : Option Addr), k ≤ xs.length ∧ i = .int .i64 k ∧ o = .slice B (xs.take k).flatten.length c ∧ wr.ownsRow w.heap.size 5 1 (.slice B (xs.take k).flatten.length c) (xs.take k).flatten.length (u8s (xs.take k).flatten) ∧ Chg (fun i => w.heap.size ≤ i) w wr) (fun _ i _ => xs.length - (intOf i).toNat)
  case atStart => exact ⟨0, 0, none, by omega, rfl, by simp, by simpa [u8s] using World.ownsRow_nil _ _ _ _, Chg.refl _ _⟩
  case round =>
    rename World => wr
    obtain ⟨k, cO, B, hk, rfl, rfl, hrow, hch⟩ := hrel
    have hsz := hch.size
    by_cases hk2 : (k : Int) < xs.length
    · obtain ⟨bb, off, cc, he, _, _, hr⟩ := (src_below H.out (by decide) hch).form (by omega)
      injection he with e1 e2 e3
      subst e1 e3
      clear e2
      have r0 := hr k (ds.getD k undef) (by rw [List.getD_eq_getElem?_getD, List.getElem?_eq_getElem (show k < ds.length by omega)]; rfl)
      have hdd : SlB wr _ _ := src_below (HD.out k (by omega)) (by decide) hch
      have hyl := HL.out k (by omega)
      have hkl := HFL.out k (by omega)
      have hsu : (xs.take (k + 1)).flatten = (xs.take k).flatten ++ xs.getD k [] := by
        rw [List.take_add_one, List.getElem?_eq_getElem (show k < xs.length by omega), List.flatten_append, List.getD_eq_getElem?_getD, List.getElem?_eq_getElem (show k < xs.length by omega)]
        simp
      obtain ⟨d, hde⟩ : ∃ d, ds.getD k undef = d := ⟨_, rfl⟩
      obtain ⟨ys, hys⟩ : ∃ ys, xs.getD k [] = ys := ⟨_, rfl⟩
      obtain ⟨zs, hzs⟩ : ∃ zs, (xs.take k).flatten = zs := ⟨_, rfl⟩
      rw [hde] at r0 hdd
      rw [hys] at hdd hyl hsu
      rw [hzs] at hrow hkl hsu ⊢
      obtain ⟨A1, c1, rfl, _, _⟩ := hdd.shape
      obtain ⟨v', w', hrun, ho, hg, _, hb⟩ := ap_run (P := Try.prog) wr 28 28 w.heap.size 5 (.int .u8 0) 1 1 Try.underlying28 (by kernel_rfl) rfl (by decide) _ _ _ hrow _ _ _ hdd (u8s_one _) (by omega) (by omega) hsz
      rw [show u8s zs ++ u8s ys = u8s (zs ++ ys) by simp [u8s], show zs.length + ys.length = (zs ++ ys).length by simp] at ho
      rw [← hsu] at ho
      obtain ⟨B2, c2, rfl⟩ := own_shape ho
      obtain ⟨ws, hws⟩ : ∃ ws, (xs.take (k + 1)).flatten = ws := ⟨_, rfl⟩
      rw [hws] at ho hrun
      have HWS := Lib.hid hws
      clear hws
      have HRUN := Lib.hid hrun
      have HO := Lib.hid ho
      have HC := Lib.hid (hch.then (Chg.of_grownBy hg) (fun i hi => .inl (by
        have := own_ge hrow i hi.symm
        exact this)))
      clear hr hdd hsu hde hys hzs hrow hch hrun ho hg hb
      go_wp2_with (at_builtin; refine wpList_run_append rfl (.tmp 11) (.tmp 15) 28 rfl _ _ rfl rfl 28 rfl HRUN.out ?_)
      exact ⟨⟨k + 1, c2, B2, by omega, by go_num, by rw [HWS.out], by rw [HWS.out]; exact HO.out, HC.out⟩, by simp [intOf]; omega⟩
    · obtain rfl : k = xs.length := by omega
      obtain ⟨zs, hzs⟩ : ∃ zs, (xs.take xs.length).flatten = zs := ⟨_, rfl⟩
      have HZ : Hid (F = zs) := Lib.hid (by rw [← hzs, List.take_length, HF.out])
      rw [hzs] at hrow ⊢
      have HROW := Lib.hid hrow
      have HCH := Lib.hid hch
      clear hrow hch hzs
      go_wp2_with fail
      go_ret
      rw [HZ.out]
      exact ⟨.slice B zs.length cO, rfl, HROW.out, HCH.out.below (Nat.le_refl _) (fun _ h => h)⟩
end Go.Proofs.Ytkndnlhlglgmfaa
