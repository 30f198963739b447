/-
  Without, walked.
-/
import Derived.Test.YtofmblkmfbioiaaN13
namespace Go.Proofs.Ytofmblkmfbioiaa
open Go.RowKit
theorem erase_snoc (l : List Let) (x : Let) (k : Nat) : (l ++ [x]).eraseIdx k = if k = l.length then l.eraseIdx k else l.eraseIdx k ++ [x] := by
  split
  · rename_i h
    subst h
    rw [List.eraseIdx_append_of_length_le (Nat.le_refl _), Nat.sub_self, List.eraseIdx_of_length_le (Nat.le_refl _)]
    simp
  · rename_i h
    by_cases hk : k < l.length
    · rw [List.eraseIdx_append_of_lt_length hk]
    · rw [List.eraseIdx_append_of_length_le (by omega), List.eraseIdx_of_length_le (show l.length ≤ k by omega)]
      rw [List.eraseIdx_of_length_le (by simp; omega)]
set_option maxRecDepth 100000 in
set_option maxHeartbeats 4000000 in
theorem without_any (w : World) (b0 : Nat) (v : Value) (ls : List Let) (h : XAt w b0 v ls) (k0 : Nat) (hk0 : k0 < ls.length) (hn : ls.length ≤ 100000) :
    Calls Try.prog 27 #[v, .int .i64 k0] w (fun e w' => ∃ B c, e = .returned (.slice B (ls.eraseIdx k0).length c) ∧ XAt w' w.heap.size (.slice B (ls.eraseIdx k0).length c) (ls.eraseIdx k0) ∧ Below w.heap.size w w') := by
  obtain ⟨g, c0, rfl⟩ : ∃ g c, v = .slice (some ⟨g, 0, none⟩) ls.length c := by
    rcases h.2 with ⟨_, hz⟩ | ⟨g, cap, cur, rfl, _⟩
    · omega
    · exact ⟨g, cap, rfl⟩
  have hcc : ls.length ≤ c0 ∧ c0 ≤ 9223372036854775807 := by
    rcases h.2 with ⟨hz, _⟩ | ⟨g', cap, cur, he, _, _, h1, h2, _⟩
    · cases hz
    · injection he with _ _ e3
      subst e3
      exact ⟨h1, by simpa [maxLen] using h2⟩
  obtain ⟨hc1, hc2⟩ := hcc
  have H := Lib.hid h
  clear h
  go_enter Try.func27, Try.ntmps27
  go_wp2_with fail
  go_loopw [5, 6] (fun o i wr => ∃ (j m c : Nat) (B : Option Addr), j ≤ ls.length ∧ i = .int .i64 j ∧ m = ((ls.take j).eraseIdx k0).length ∧ o = .slice B m c ∧ XAt wr w.heap.size (.slice B m c) ((ls.take j).eraseIdx k0) ∧ Up w wr) (fun _ i _ => ls.length - (intOf i).toNat)
  case atStart => exact ⟨0, 0, 0, none, by omega, rfl, by simp, rfl, by simp [XAt, rowR]; exact World.ownsRow_nil _ _ _ _, Chg.refl _ _⟩
  case round =>
    rename World => wo
    obtain ⟨j, m, c, B, hj, rfl, hm, rfl, hx, hu⟩ := hrel
    by_cases hj2 : (j : Int) < ls.length
    · have hjj : j < ls.length := by omega
      have hlt : (ls.take j).length = j := by rw [List.length_take]; omega
      have hsn := erase_snoc (ls.take j) (ls.getD j default) k0
      rw [← take_snoc ls j hjj, hlt] at hsn
      have hml : m ≤ ls.length := by rw [hm, List.length_eraseIdx]; split <;> omega
      by_cases hjk : j = k0
      · have hne : ((j : Int) != (k0 : Int)) = false := by rw [bne_eq_false_iff_eq]; omega
        rw [if_pos hjk.symm] at hsn
        have HX := Lib.hid hx
        have HU := Lib.hid hu
        have HSN := Lib.hid hsn
        have HM := Lib.hid hm
        clear hx hu hsn hlt hm
        go_wp2_with fail
        go_roundw
        case rel => exact ⟨j + 1, m, c, B, by omega, by go_num, by rw [HSN.out]; exact HM.out, rfl, by rw [HSN.out]; exact HX.out, HU.out⟩
        case measure => simp [intOf]; omega
      · have hne : ((j : Int) != (k0 : Int)) = true := by rw [bne_iff_ne]; omega
        rw [if_neg (fun e => hjk e.symm)] at hsn
        obtain ⟨r0, r1, r2⟩ := (show XAt wo b0 _ ls from own_up H.out hu).cells j hjj
        obtain ⟨x, hxe⟩ : ∃ x, ls.getD j default = x := ⟨_, rfl⟩
        rw [hxe] at r0 r1 r2 hsn
        obtain ⟨f, t, xs⟩ := x
        dsimp only at r0 r1 r2
        obtain ⟨st, hst⟩ : ∃ s, strOfNums xs = s := ⟨_, rfl⟩
        rw [hst] at r2
        obtain ⟨W3, hW3⟩ : ∃ W3, W3 = wo.alloc (.cells #[.int .i64 f, .int .i64 t, .string st] 49) := ⟨_, rfl⟩
        have hu3 : Up wo W3 := by rw [hW3]; exact (Chg.refl _ wo).alloc _
        have hz := hu.size
        have hz3 := hu3.size
        rw [hm] at hx
        have hpush := push_ref W3 w.heap.size (by omega) _ _ (own_up hx hu3) (f, t, xs) wo.heap.size (by rw [hW3, hst]; exact heap_alloc_last _ _) (by rw [← hm]; omega)
        obtain ⟨B5, c5, W5, hrun, ho5, hc5, _⟩ := hpush
        rw [hW3, ← hm] at hrun
        rw [← hm] at ho5
        have HRUN := Lib.hid hrun
        have HO5 := Lib.hid ho5
        have HSN := Lib.hid hsn
        have HM := Lib.hid hm
        have HU5 := Lib.hid ((hu.trans hu3).then hc5 (fun i hi => .inr ((World.ownsRow.lt (own_up hx hu3) i hi).1)))
        clear hx hu hsn hlt hm hxe hst hu3 hz hz3 hrun ho5 hc5 hW3
        go_wp2_with (first
          | refine wpList_oneR rfl (.tmp 20) rfl f t st (by rfl) ?_
          | (at_builtin; refine wpList_run_append rfl _ _ 34 rfl _ _ rfl rfl 34 rfl HRUN.out ?_))
        go_roundw
        case rel => exact ⟨j + 1, m + 1, c5, B5, by omega, by go_num, by rw [HSN.out, List.length_append, ← HM.out]; rfl, rfl, by rw [HSN.out]; exact HO5.out, HU5.out⟩
        case measure => simp [intOf]; omega
    · obtain rfl : j = ls.length := by omega
      rw [List.take_length] at hx hm
      subst hm
      have HX := Lib.hid hx
      have HU := Lib.hid hu
      clear hx hu
      go_wp2_with fail
      go_ret
      exact ⟨B, c, rfl, HX.out, HU.out.below_none (fun _ _ h => h)⟩
end Go.Proofs.Ytofmblkmfbioiaa
