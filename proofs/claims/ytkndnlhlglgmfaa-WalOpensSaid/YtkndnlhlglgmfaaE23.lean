/-
  The document's disk: New, walked.
-/
import Derived.Test.YtkndnlhlglgmfaaE22
namespace Go.Proofs.Ytkndnlhlglgmfaa
open Go.RowKit
theorem made_str {w : World} {base : Nat} {v : Value} {Z : Nat} (h : w.ownsRow base 5 1 v Z (madeCells (Value.int .u8 0).cells (Z * 1)).toList) : (convert 28 9 v).run Try.prog w = .ok (.string (strOfNums (List.replicate Z 0))) w := by
  rw [show (madeCells (Value.int .u8 0).cells (Z * 1)).toList = List.replicate Z (.int .u8 0) from by rw [Nat.mul_one]; exact toList_madeCells_one _ _] at h
  refine sl_string (DatB.slb (d := v) (xs := List.replicate Z 0) ?_)
  unfold DatB
  rw [List.length_replicate, u8s_rep]
  exact own_base h (Nat.zero_le _)
theorem own_ne {w : World} {e : TypeId} {s base n : Nat} {v : Value} {xs : List Value} {g : Nat} {cs : Array Value} {t : TypeId} {fr : Nat × Nat} (h : w.ownsRow base e s v n xs) (hg : w.heap[g]? = some (.cells cs t fr)) (ht : t ≠ e) : v.ownBlock ≠ some g := fun hv => by
  obtain ⟨cu, fu, hh⟩ := own_type h g hv
  rw [hg] at hh
  injection hh with hh
  injection hh with _ h2
  exact ht h2
theorem strs_succ (k : Nat) (f : Nat → List Int) : strs (k + 1) f = strs k f ++ [.string (strOfNums (f k))] := by
  unfold strs
  rw [List.range_succ, List.map_append]; rfl
/-- A string at the end of a row. -/
theorem push_str (w : World) (v : Value) (k : Nat) (f : Nat → List Int) (hown : w.ownsRow 0 9 1 v k (strs k f)) (s : ByteArray) (hs : strOfNums (f k) = s) (hk : k ≤ 1000000) :
    ∃ A c w', (Builtin.append_ #[51, 51] 51 #[v, .slice (some ⟨w.heap.size, 0, none⟩) 1 1]).run Try.prog (w.alloc (.cells #[.string s] 9)) = .ok (.slice A (k + 1) c) w' ∧ w'.ownsRow 0 9 1 (.slice A (k + 1) c) (k + 1) (strs (k + 1) f) ∧
      Chg (fun j => v.ownBlock = some j) w w' ∧ ((Value.slice A (k + 1) c).ownBlock = v.ownBlock ∨ ∃ g, (Value.slice A (k + 1) c).ownBlock = some g ∧ w.heap.size ≤ g) := by
  obtain ⟨A, c, w', h1, h2, h3, h4⟩ := push_run (P := Try.prog) w 51 51 0 9 (.string ⟨#[]⟩) 16 Try.underlying51 (by kernel_rfl) rfl v k (strs k f) hown [.string s] 1 rfl (by simp [Value.oneCell']) (by omega) (by omega) (Nat.zero_le _)
  refine ⟨A, c, w', h1, ?_, h3, h4⟩
  rw [strs_succ, hs]
  exact h2
def XNew (w : World) (x : Dk) (e : Ending) (w' : World) : Prop := ∃ p sv1 sv2, e = .returned (.pointer (some ⟨p, 0, none⟩)) ∧ RefX w' p sv1 sv2 x ∧ (∀ j, OwnR p sv1 sv2 j → w.heap.size ≤ j) ∧ Below w.heap.size w w'
set_option maxRecDepth 100000 in
set_option maxHeartbeats 4000000 in
theorem xnew (w : World) (N Z : Nat) (hN : N ≤ 65536) (hZ : Z ≤ 4096) : Calls Try.prog 40 #[.int .i64 N, .int .i64 Z] w (XNew w (freshI N Z)) := by
  obtain ⟨i5, hi, hz, hs, hb⟩ := info_parts (P := Try.prog) (e := 5) (z := .int .u8 0) (size := 1) (bytes := 1) (by kernel_rfl)
  have hm3 : i5.bytes * Z ≤ 281474976710656 := by rw [hb]; omega
  have hm4 : Z ≤ maxLen := by unfold maxLen; omega
  go_enter Try.func40, Try.ntmps40
  go_wp2_with (refine wpList_make_full _ rfl (.tmp 11) (.tmp 11) 28 rfl 0 5 i5 _ 1 Try.underlying28 hi hz hs .i64 .i64 Z Z Z rfl rfl rfl rfl hm3 hm4 (Nat.zero_le _) ?_; intro w1 hr1 hg1; have hst := made_str hr1)
  rw [show (w.alloc (.cells #[.slice none 0 0, .slice none 0 0, .int .i64 Z, .int .i64 0, .int .i64 0, .bool false, .bool false] 103)).heap.size = w.heap.size + 1 by simp] at hst
  rw [hst]
  clear hst hi hz hs hb hm3 hm4 hr1
  obtain ⟨s0, hs0⟩ : ∃ s, strOfNums (List.replicate Z 0) = s := ⟨_, rfl⟩
  rw [hs0]
  have hu1 : Up (w.alloc (.cells #[.slice none 0 0, .slice none 0 0, .int .i64 Z, .int .i64 0, .int .i64 0, .bool false, .bool false] 103)) w1 := (Chg.of_grownBy hg1).mono (fun i _ hi => by cases hi)
  have hobj1 := hu1.heap (heap_alloc_last w (.cells #[.slice none 0 0, .slice none 0 0, .int .i64 Z, .int .i64 0, .int .i64 0, .bool false, .bool false] 103)) (fun h => h)
  have hch1 : Chg (fun i => w.heap.size ≤ i) w w1 := (((Chg.refl (fun _ => False) w).alloc (.cells #[.slice none 0 0, .slice none 0 0, .int .i64 Z, .int .i64 0, .int .i64 0, .bool false, .bool false] 103)).trans hu1).mono (fun _ _ h => h.elim)
  obtain ⟨p, hp⟩ : ∃ p, w.heap.size = p := ⟨_, rfl⟩
  rw [hp] at hobj1 hch1 ⊢
  have HS0 := Lib.hid hs0
  have HP := Lib.hid hp
  have HOBJ := Lib.hid hobj1
  have HCH1 := Lib.hid hch1
  clear hs0 hp hobj1 hch1 hu1 hg1
  simp only [Result.andThen_ok]
  go_wp2_with fail
  go_loopw [7] (fun t wr => ∃ (k : Nat) (sv1 sv2 : Value), k ≤ N ∧ t = .int .i64 k ∧ RefF wr p sv1 sv2 k Z 0 0 false false (fun _ => List.replicate Z 0) (fun _ => []) ∧ (∀ j, OwnR p sv1 sv2 j → p ≤ j) ∧ Chg (fun i => p ≤ i) w wr) (fun t _ => N - (intOf t).toNat)
  case atStart =>
    refine ⟨0, .slice none 0 0, .slice none 0 0, by omega, rfl, ⟨HOBJ.out, World.ownsRow_nil _ _ _ _, World.ownsRow_nil _ _ _ _, fun k h => ?_⟩, fun j hj => ?_, HCH1.out⟩
    · simp [Value.ownBlock] at h
    · rcases hj with rfl | h | h
      · exact Nat.le_refl _
      · simp [Value.ownBlock] at h
      · simp [Value.ownBlock] at h
  case round =>
    rename World => wr
    obtain ⟨k, sv1, sv2, hk, rfl, hd, hown, hch⟩ := hrel
    by_cases hk2 : (k : Int) < N
    · obtain ⟨A1, d1, w2, hrun1, ho1, hc1, hb1⟩ := push_str wr sv1 k (fun _ => List.replicate Z 0) hd.r1 s0 HS0.out (by omega)
      have hobj2 := hc1.heap hd.obj (own_ne hd.r1 hd.obj (by decide))
      have q0 := hd.c0
      have f0 := frozen_of_row w2 p 0 _ _ hobj2
      have g0 := cell_of_row w2 p 0 _ _ _ hobj2
      have hcs : Chg (fun i => i = p) w2 (w2.setCell ⟨p, 0, none⟩ (.slice A1 (k + 1) d1)) := (Chg.refl (fun i => i = p) w2).setCell ⟨p, 0, none⟩ (.inl rfl) _
      have hobj3 : (w2.setCell ⟨p, 0, none⟩ (.slice A1 (k + 1) d1)).heap[p]? = some (.cells #[.slice A1 (k + 1) d1, sv2, .int .i64 Z, .int .i64 0, .int .i64 0, .bool false, .bool false] 103 (0, 0)) := by rw [heap_setCell_same w2 p 0 _ _ _ hobj2]; rfl
      have hr2 := own_chg hd.r2 hc1 (fun j hj hj2 => hd.ap j hj2 hj)
      have hr2' := own_chg hr2 hcs (fun j hj e => own_ne hr2 hobj2 (by decide) (by rw [hj, e]))
      have ho1' := own_chg ho1 hcs (fun j hj e => own_ne ho1 hobj2 (by decide) (by rw [hj, e]))
      obtain ⟨W3, hW3⟩ : ∃ W3, w2.setCell ⟨p, 0, none⟩ (.slice A1 (k + 1) d1) = W3 := ⟨_, rfl⟩
      rw [hW3] at hcs hobj3 hr2' ho1'
      obtain ⟨A2, d2, w4, hrun2, ho2, hc2, hb2⟩ := push_str W3 sv2 k (fun _ => []) hr2' ⟨#[]⟩ rfl (by omega)
      have hobj4 := hc2.heap hobj3 (own_ne hr2' hobj3 (by decide))
      have q3 := cell_of_row W3 p 1 _ _ _ hobj3
      rw [← hW3] at q3
      have f4 := frozen_of_row w4 p 1 _ _ hobj4
      have g4 := cell_of_row w4 p 1 _ _ _ hobj4
      have hcs5 : Chg (fun i => i = p) w4 (w4.setCell ⟨p, 1, none⟩ (.slice A2 (k + 1) d2)) := (Chg.refl (fun i => i = p) w4).setCell ⟨p, 1, none⟩ (.inl rfl) _
      have hobj5 : (w4.setCell ⟨p, 1, none⟩ (.slice A2 (k + 1) d2)).heap[p]? = some (.cells #[.slice A1 (k + 1) d1, .slice A2 (k + 1) d2, .int .i64 Z, .int .i64 0, .int .i64 0, .bool false, .bool false] 103 (0, 0)) := by rw [heap_setCell_same w4 p 1 _ _ _ hobj4]; rfl
      have hne : ∀ j, (Value.slice A1 (k + 1) d1).ownBlock = some j → ¬ sv2.ownBlock = some j := fun j h1 h2 => by
        rcases hb1 with e | ⟨g, e, hg⟩
        · exact hd.ap j (by rw [← e]; exact h1) h2
        · have := hd.lt j (.inr (.inr h2))
          rw [e] at h1; injection h1 with h1; omega
      have hr1f := own_chg (own_chg ho1' hc2 (fun j h1 h2 => hne j h1 h2)) hcs5 (fun j hj e => own_ne (own_chg ho1' hc2 (fun j h1 h2 => hne j h1 h2)) hobj4 (by decide) (by rw [hj, e]))
      have hr2f := own_chg ho2 hcs5 (fun j hj e => own_ne ho2 hobj4 (by decide) (by rw [hj, e]))
      have hap : ∀ j, (Value.slice A1 (k + 1) d1).ownBlock = some j → (Value.slice A2 (k + 1) d2).ownBlock = some j → False := fun j h1 h2 => by
        rcases hb2 with e | ⟨g, e, hg⟩
        · exact hne j h1 (by rw [← e]; exact h2)
        · obtain ⟨cu, fu, hh⟩ := own_type ho1' j h1
          have := (Array.getElem?_eq_some_iff.1 hh).1
          rw [e] at h2; injection h2 with h2; omega
      have hsz := hc1.size
      have hsz3 := hcs.size
      have hpl := hd.lt p (.inl rfl)
      have HREL := Lib.hid (show RefF (w4.setCell ⟨p, 1, none⟩ (.slice A2 (k + 1) d2)) p (.slice A1 (k + 1) d1) (.slice A2 (k + 1) d2) (k + 1) Z 0 0 false false (fun _ => List.replicate Z 0) (fun _ => []) from ⟨hobj5, hr1f, hr2f, hap⟩)
      have HOWN : Hid (∀ j, OwnR p (.slice A1 (k + 1) d1) (.slice A2 (k + 1) d2) j → p ≤ j) := Lib.hid (fun j hj => by
        rcases hj with rfl | h | h
        · exact Nat.le_refl _
        · rcases hb1 with e | ⟨g, e, hg⟩
          · exact hown j (.inr (.inl (by rw [← e]; exact h)))
          · rw [e] at h; injection h with h; omega
        · rcases hb2 with e | ⟨g, e, hg⟩
          · exact hown j (.inr (.inr (by rw [← e]; exact h)))
          · rw [e] at h; injection h with h; omega)
      have HCHF := Lib.hid (show Chg (fun i => p ≤ i) w (w4.setCell ⟨p, 1, none⟩ (.slice A2 (k + 1) d2)) from (((hch.then hc1 (fun i hi => .inl (hown i (.inr (.inl hi))))).then hcs (fun i hi => .inl (by rw [hi]; exact Nat.le_refl _))).then hc2 (fun i hi => .inl (hown i (.inr (.inr hi))))).then hcs5 (fun i hi => .inl (by rw [hi]; exact Nat.le_refl _)))
      have HR1 := Lib.hid hrun1
      rw [show W3.heap.size = w2.heap.size by rw [← hW3]; simp] at hrun2
      have HR2 := Lib.hid hrun2
      have HW3 := Lib.hid hW3
      clear hrun1 ho1 hc1 hb1 hobj2 hcs hobj3 hr2 hr2' ho1' hrun2 ho2 hc2 hb2 hobj4 hcs5 hobj5 hne hr1f hr2f hap hd hown hch hW3
      go_wp2_with (at_builtin; first | refine wpList_run_append rfl (.tmp 23) (.tmp 25) 51 rfl _ _ rfl rfl 51 rfl HR1.out ?_ | (rw [HW3.out]; refine wpList_run_append rfl (.tmp 33) (.tmp 34) 51 rfl _ _ rfl rfl 51 rfl HR2.out ?_))
      exact ⟨⟨k + 1, .slice A1 (k + 1) d1, .slice A2 (k + 1) d2, by omega, by go_num, HREL.out, HOWN.out, HCHF.out⟩, by simp [intOf]; omega⟩
    · obtain rfl : k = N := by omega
      have HD := Lib.hid hd
      have HOWN := Lib.hid hown
      have HCH := Lib.hid hch
      clear hd hown hch
      go_wp2_with fail
      go_ret
      refine ⟨p, sv1, sv2, rfl, ⟨0, false, ?_, fun h => (by cases h), fun _ => rfl⟩, by rw [HP.out]; exact HOWN.out, by rw [HP.out]; exact HCH.out.below (by rw [HP.out]; exact Nat.le_refl _) (fun _ h => h)⟩
      rw [show (freshI k Z).has.length = k by simp [freshI]]
      exact HD.out.congr (fun j hj => by simp [hasF, freshI, List.getD_eq_getElem?_getD, hj]) (fun j _ => rfl)
end Go.Proofs.Ytkndnlhlglgmfaa
