/-
  Send, Twice, walked.
-/
import Derived.Test.YtofmblkmfbioiaaN5
namespace Go.Proofs.Ytofmblkmfbioiaa
open Go.RowKit
/-- What 'add' does: refused where the net is full; else one letter more at the end. -/
def AddPost (p : Nat) (lv : Value) (ds : List Value) (ls : List Let) (sent sent' : Int) (x : Let) (w w' : World) : Prop :=
  ∃ lv' d', NetAt w' p lv' (ds ++ [d']) (ls ++ [x]) sent' ∧ Chg (fun i => i = p ∨ lv.ownBlock = some i) w w' ∧ (lv'.ownBlock = lv.ownBlock ∨ ∃ g, lv'.ownBlock = some g ∧ w.heap.size ≤ g)
/-- The same; and the bytes are new memory. -/
def AddNew (p : Nat) (lv : Value) (ds : List Value) (ls : List Let) (sent sent' : Int) (x : Let) (w w' : World) : Prop :=
  ∃ lv' d', NetAt w' p lv' (ds ++ [d']) (ls ++ [x]) sent' ∧ Chg (fun i => i = p ∨ lv.ownBlock = some i) w w' ∧ (lv'.ownBlock = lv.ownBlock ∨ ∃ g, lv'.ownBlock = some g ∧ w.heap.size ≤ g) ∧ ∀ g, d'.ownBlock = some g → w.heap.size ≤ g
theorem row_not57 {W : World} {base n : Nat} {v : Value} {xs : List Value} (h : W.ownsRow base 29 3 v n xs) : ∀ k cur fr, v.ownBlock = some k → W.heap[k]? ≠ some (.cells cur 57 fr) := by
  intro k cur fr hk hg
  rcases h.2 with ⟨rfl, _⟩ | ⟨g, cap, cur', rfl, _, hg', _⟩
  · simp [Value.ownBlock] at hk
  · obtain rfl : g = k := by simpa [Value.ownBlock] using hk
    rw [hg'] at hg
    cases hg
/-- What Send answers. -/
def sendI (ls : List Let) (x : Let) : Int := if whoI x.1 && whoI x.2.1 then (if ls.length < 1024 then 0 else 12) else 11
set_option maxRecDepth 100000 in
set_option maxHeartbeats 4000000 in
theorem send_new (w : World) (p : Nat) (lv : Value) (ds : List Value) (ls : List Let) (sent : Int) (h : NetAt w p lv ds ls sent) (hs0 : 0 ≤ sent) (hs1 : sent ≤ 1000000) (f t : Int) (d : Value) (xs : List Int) (hd : SlB w d xs) (hnx : xs.length ≤ 1000000) :
    Calls Try.prog 10 #[.pointer (some ⟨p, 0, none⟩), .agg #[.int .i64 f, .int .i64 t, d]] w (fun e w' => e = .returned (.int .i64 (sendI ls (f, t, xs))) ∧
      ((sendI ls (f, t, xs) ≠ 0 ∧ Up w w') ∨ (sendI ls (f, t, xs) = 0 ∧ AddNew p lv ds ls sent (sent + 1) (f, t, xs) w w'))) := by
  obtain ⟨A, c, rfl, _, _⟩ := hd.shape
  obtain ⟨W0, hW0⟩ : ∃ W0, W0 = w.alloc (.cells #[.int .i64 f, .int .i64 t, .slice A xs.length c] 29) := ⟨_, rfl⟩
  have hu0 : Up w W0 := by rw [hW0]; exact (Chg.refl _ w).alloc _
  have hwf := who_any W0 f
  have hwt := who_any W0 t
  have hadd := add_any W0 p lv ds ls sent (h.up hu0) f t _ xs (Src.chg hd hu0 (fun _ _ _ h => h) (by decide)) hnx
  have HWF := Lib.hid hwf
  have HWT := Lib.hid hwt
  have HADD := Lib.hid hadd
  have HU0 := Lib.hid hu0
  have HW := Lib.hid hW0
  have HN := Lib.hid h
  have hbx : W0.heap[w.heap.size]? = some (.cells #[.int .i64 f, .int .i64 t, .slice A xs.length c] 29 (0, 0)) := by rw [hW0]; exact heap_alloc_last _ _
  have b0 := cell_of_row W0 w.heap.size 0 _ _ _ hbx
  have b1 := cell_of_row W0 w.heap.size 1 _ _ _ hbx
  have b2 := cell_of_row W0 w.heap.size 2 _ _ _ hbx
  clear h hd hbx hu0 hwf hwt hadd hW0
  have hsi : ∀ r, sendI ls (f, t, xs) = r ↔ (if whoI f && whoI t then (if ls.length < 1024 then (0 : Int) else 12) else 11) = r := fun r => by unfold sendI; rfl
  have HSI := Lib.hid hsi
  obtain ⟨sr, hsr⟩ : ∃ r, sendI ls (f, t, xs) = r := ⟨_, rfl⟩
  rw [hsr]
  have HSR := Lib.hid ((hsi sr).1 hsr)
  clear hsi hsr HSI
  go_enter Try.func10, Try.ntmps10
  go_wp2_with fail
  rw [← HW.out]
  refine HWF.out.mono ?_
  rintro e W1 ⟨rfl, rfl⟩
  by_cases hf : whoI f = true
  · by_cases ht : whoI t = true
    · rw [hf, ht] at HSR
      rw [hf]
      rw [ht] at HWT
      simp only [Bool.and_self, if_true] at HSR
      go_wp2_with fail
      refine HWT.out.mono ?_
      rintro e W1 ⟨rfl, rfl⟩
      go_wp2_with fail
      refine HADD.out.mono ?_
      rintro e W2 (⟨hl, rfl, hu2⟩ | ⟨hl, rfl, lv', d', hn2, hc2, hb2, hd2⟩)
      · have hr : sr = 12 := by have := HSR.out; rw [if_neg (by omega)] at this; exact this.symm
        subst hr
        have HU2 := Lib.hid (HU0.out.trans hu2)
        clear hu2 b0 b1 b2
        go_wp2_with fail
        go_ret
        exact ⟨rfl, .inl ⟨by decide, HU2.out⟩⟩
      · have hr : sr = 0 := by have := HSR.out; rw [if_pos hl] at this; exact this.symm
        subst hr
        have c1 := hn2.c1
        have fz := frozen_of_row W2 p 1 _ _ hn2.obj
        have HN2 := Lib.hid hn2
        have HC2 := Lib.hid hc2
        have HB2 := Lib.hid hb2
        have HD2 := Lib.hid hd2
        clear hn2 hc2 hb2 hd2 b0 b1 b2
        go_wp2_with fail
        go_ret
        have hcW : Chg (fun i => i = p) W2 (W2.setCell ⟨p, 1, none⟩ (.int .i64 (sent + 1))) := (Chg.refl (fun i => i = p) W2).setCell ⟨p, 1, none⟩ (.inl rfl) _
        have h5 : ∀ k cur fr, (fun i => i = p) k → W2.heap[k]? ≠ some (.cells cur 5 fr) := fun k cur fr hk hg => by
          have hk : k = p := hk
          subst hk
          rw [HN2.out.obj] at hg; cases hg
        have hpne : ∀ k, lv'.ownBlock = some k → ¬ k = p := fun k hk hkp => by
          subst hkp
          exact row_not57 HN2.out.row k _ _ hk HN2.out.obj
        refine ⟨rfl, lv', d', ⟨heap_setCell_same W2 p 1 _ _ _ HN2.out.obj, HN2.out.len, own_chg HN2.out.row hcW hpne, fun j hj => (HN2.out.dat j hj).chg hcW h5⟩, ?_, ?_, fun g hg => Nat.le_trans HU0.out.size (HD2.out g hg)⟩
        · exact ((HU0.out.mono (fun _ _ h => h.elim)).then HC2.out (fun i hi => .inl hi)).setCell ⟨p, 1, none⟩ (.inl (.inl rfl)) _
        · rcases HB2.out with hb | ⟨g, hb, hge⟩
          · exact .inl hb
          · exact .inr ⟨g, hb, Nat.le_trans HU0.out.size hge⟩
    · have ht' : whoI t = false := by simpa using ht
      rw [hf, ht'] at HSR
      rw [hf]
      rw [ht'] at HWT
      have hr : sr = 11 := by have := HSR.out; simpa using this.symm
      subst hr
      clear HSR
      go_wp2_with fail
      refine HWT.out.mono ?_
      rintro e W1 ⟨rfl, rfl⟩
      go_wp2_with fail
      go_ret
      exact ⟨rfl, .inl ⟨by decide, HU0.out⟩⟩
  · have hf' : whoI f = false := by simpa using hf
    rw [hf'] at HSR
    rw [hf']
    have hr : sr = 11 := by have := HSR.out; simpa using this.symm
    subst hr
    clear HSR
    go_wp2_with fail
    go_ret
    exact ⟨rfl, .inl ⟨by decide, HU0.out⟩⟩
theorem send_any (w : World) (p : Nat) (lv : Value) (ds : List Value) (ls : List Let) (sent : Int) (h : NetAt w p lv ds ls sent) (hs0 : 0 ≤ sent) (hs1 : sent ≤ 1000000) (f t : Int) (d : Value) (xs : List Int) (hd : SlB w d xs) (hnx : xs.length ≤ 1000000) :
    Calls Try.prog 10 #[.pointer (some ⟨p, 0, none⟩), .agg #[.int .i64 f, .int .i64 t, d]] w (fun e w' => e = .returned (.int .i64 (sendI ls (f, t, xs))) ∧
      ((sendI ls (f, t, xs) ≠ 0 ∧ Up w w') ∨ (sendI ls (f, t, xs) = 0 ∧ AddPost p lv ds ls sent (sent + 1) (f, t, xs) w w'))) := by
  refine (send_new w p lv ds ls sent h hs0 hs1 f t d xs hd hnx).mono ?_
  rintro e w' ⟨he, hr⟩
  refine ⟨he, hr.imp id (fun ⟨h0, lv', d', h1, h2, h3, _⟩ => ⟨h0, lv', d', h1, h2, h3⟩)⟩
end Go.Proofs.Ytofmblkmfbioiaa
