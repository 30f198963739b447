/-
  Twice, Bend, walked.
-/
import Derived.Test.YtofmblkmfbioiaaN6
namespace Go.Proofs.Ytofmblkmfbioiaa
open Go.RowKit
/-- What Twice answers. -/
def twiceI (ls : List Let) (i : Int) : Int := if atI ls i then (if ls.length < 1024 then 0 else 12) else 11
theorem atI_nat {ls : List Let} {i : Int} (h : atI ls i = true) : ∃ k : Nat, i = k ∧ k < ls.length := by
  unfold atI at h
  simp at h
  exact ⟨i.toNat, by omega, by omega⟩
/-- Another text for one letter. -/
theorem rowC_set : ∀ (ls : List Let) (ds : List Value) (k : Nat) (xs : List Int) (d : Value), ds.length = ls.length → k < ls.length →
    (rowC ls ds).set (3 * k + 2) d = rowC (ls.set k ((ls.getD k default).1, (ls.getD k default).2.1, xs)) (ds.set k d)
  | [], _, _, _, _, _, h => by simp at h
  | _ :: _, [], _, _, _, h, _ => by simp at h
  | x :: ls, d0 :: ds, 0, xs, d, _, _ => by simp [rowC, letC]
  | x :: ls, d0 :: ds, k + 1, xs, d, hd, hk => by
    have ih := rowC_set ls ds k xs d (by simpa using hd) (by simpa using hk)
    have e : ∀ (y : Let) (l : List Let) (d1 : Value) (d2 : List Value), rowC (y :: l) (d1 :: d2) = letC y d1 ++ rowC l d2 := fun _ _ _ _ => by simp [rowC]
    have hl : (letC x d0).length = 3 := rfl
    rw [List.set_cons_succ, List.set_cons_succ, e, e, List.set_append_right _ _ (by omega), hl, show 3 * (k + 1) + 2 - 3 = 3 * k + 2 by omega, ih]
    simp
theorem row_set {w : World} {base g n c : Nat} {ls : List Let} {ds : List Value} (h : w.ownsRow base 29 3 (.slice (some ⟨g, 0, none⟩) n c) n (rowC ls ds)) (hn : ls.length = n) (hd : ds.length = ls.length) (k : Nat) (hk : k < ls.length) (xs : List Int) (d : Value) :
    (w.setCell ⟨g, k * 3 + 2, none⟩ d).ownsRow base 29 3 (.slice (some ⟨g, 0, none⟩) n c) n (rowC (ls.set k ((ls.getD k default).1, (ls.getD k default).2.1, xs)) (ds.set k d)) := by
  have hs := rowC_set ls ds k xs d hd hk
  rcases h.2 with ⟨h0, _⟩ | ⟨g', cap, cur, he, hb, hg, h1, h2, h3, h4⟩
  · cases h0
  · injection he with e1 e2 e3
    injection e1 with e1
    injection e1 with e1
    subst e1 e3
    refine ⟨by rw [← hs, List.length_set]; exact h.1, .inr ⟨g, c, _, rfl, hb, heap_setCell_same w g (k * 3 + 2) cur 29 d hg, h1, h2, by simp [h3], ?_⟩⟩
    rw [← hs, ← h4, Array.toList_setIfInBounds, List.take_set, show k * 3 + 2 = 3 * k + 2 by omega]
set_option maxRecDepth 100000 in
set_option maxHeartbeats 4000000 in
theorem twice_any (w : World) (p : Nat) (lv : Value) (ds : List Value) (ls : List Let) (sent i : Int) (h : NetAt w p lv ds ls sent) (hx : ∀ j, j < ls.length → (ls.getD j default).2.2.length ≤ 1000000) :
    Calls Try.prog 11 #[.pointer (some ⟨p, 0, none⟩), .int .i64 i] w (fun e w' => e = .returned (.int .i64 (twiceI ls i)) ∧
      ((twiceI ls i ≠ 0 ∧ Up w w') ∨ (twiceI ls i = 0 ∧ AddPost p lv ds ls sent sent (ls.getD i.toNat default) w w'))) := by
  have hat := at_any w p lv ds ls sent i h
  obtain ⟨r, hr⟩ : ∃ r, twiceI ls i = r := ⟨_, rfl⟩
  rw [hr]
  unfold twiceI at hr
  by_cases ha : atI ls i = true
  · obtain ⟨k, rfl, hk⟩ := atI_nat ha
    rw [if_pos ha] at hat hr
    obtain ⟨A, c, rfl, hl1, hl2⟩ := h.shape
    obtain ⟨g, rfl⟩ : ∃ g, A = some ⟨g, 0, none⟩ := by
      rcases h.row.2 with ⟨_, h0⟩ | ⟨g, cap, cur, he, _⟩
      · omega
      · injection he with e1; exact ⟨g, e1⟩
    obtain ⟨r0, r1, r2⟩ := row_cells h.row h.len k hk
    have hdat := h.dat k hk
    have hxl := hx k hk
    have c0 := h.c0
    rw [Int.toNat_natCast]
    obtain ⟨x, hxe⟩ : ∃ x, ls.getD k default = x := ⟨_, rfl⟩
    rw [hxe] at hdat r0 r1 hxl ⊢
    obtain ⟨f, t, xs⟩ := x
    dsimp only at hdat r0 r1 hxl
    obtain ⟨A3, c3, hd3⟩ := own_shape hdat
    rw [hd3] at r2 hdat
    have hadd := add_any w p _ ds ls sent h f t (.slice A3 xs.length c3) xs hdat.slb hxl
    have HAT := Lib.hid hat
    have HADD := Lib.hid hadd
    have HR := Lib.hid hr
    clear hat hadd hr hdat hxe hd3 hx h
    go_enter Try.func11, Try.ntmps11
    go_wp2_with fail
    refine HAT.out.mono ?_
    rintro e W1 ⟨rfl, rfl⟩
    go_wp2_with fail
    refine HADD.out.mono ?_
    rintro e W2 (⟨hl, rfl, hu2⟩ | ⟨hl, rfl, hrest⟩)
    · have hr' : r = 12 := by have := HR.out; rw [if_neg (by omega)] at this; exact this.symm
      subst hr'
      have HU2 := Lib.hid hu2
      clear hu2 r0 r1 r2 c0
      go_wp2_with fail
      go_ret
      exact ⟨rfl, .inl ⟨by decide, HU2.out⟩⟩
    · have hr' : r = 0 := by have := HR.out; rw [if_pos hl] at this; exact this.symm
      subst hr'
      have HRE := Lib.hid (show AddPost p _ ds ls sent sent (f, t, xs) _ W2 from let ⟨lv', d', h1, h2, h3, _⟩ := hrest; ⟨lv', d', h1, h2, h3⟩)
      clear hrest r0 r1 r2 c0
      go_wp2_with fail
      go_ret
      exact ⟨rfl, HRE.out⟩
  · rw [if_neg ha] at hat hr
    subst hr
    have HAT := Lib.hid hat
    clear hat h hx ha
    go_enter Try.func11, Try.ntmps11
    go_wp2_with fail
    refine HAT.out.mono ?_
    rintro e W1 ⟨rfl, rfl⟩
    go_wp2_with fail
    go_ret
    exact ⟨rfl, .inl ⟨by decide, Chg.refl _ _⟩⟩
end Go.Proofs.Ytofmblkmfbioiaa
