/-
  Take, Drop, walked.
-/
import Derived.Test.YtofmblkmfbioiaaN9
import Derived.Laws.ResultCell
namespace Go.Proofs.Ytofmblkmfbioiaa
open Go.RowKit
theorem results_row_tmp {P : Program} {fn : Func} {p u : Tmp} {ty : TypeId} (h : fn.results = #[.cell p ty, .tmp u]) (tmps : Array Value) (w : World) (g : Nat) (t : TypeId) (cs : Array Value) (fr : Nat × Nat) (d : TypeDesc)
    (hp : tmps.getD p undef = .pointer (some ⟨g, 0, none⟩)) (hg : w.heap[g]? = some (.cells cs t fr)) (r : Value) (hr : tmps.getD u undef = r)
    (hu : P.underlying ty = some d) (hd : (match d with | .struct _ | .array _ _ => true | _ => false) = true) (hi : (P.info? ty).map (·.size) = some cs.size) :
    (results fn tmps).run P w = .ok (.tuple #[.agg cs, r]) w := by
  rw [results_cell_tmp h, hp]
  simp [asAddr, run_loadVar_row w g t ty cs fr d hg hu hd hi, Result.andThen]
  simpa using hr
theorem NetAt.one {w : World} {p : Nat} {lv : Value} {ds : List Value} {ls : List Let} {sent : Int} (h : NetAt w p lv ds ls sent) : ∀ u ∈ rowC ls ds, u.oneCell' = true := by
  have hds : ∀ d ∈ ds, d.oneCell' = true := fun d hd => by
    obtain ⟨j, hj, rfl⟩ := List.mem_iff_getElem.1 hd
    have h1 := h.dat j (by rw [← h.len]; exact hj)
    obtain ⟨A, c, he⟩ := own_shape h1
    have : ds.getD j undef = ds[j] := by simp [List.getD_eq_getElem?_getD, hj]
    rw [← this, he]; rfl
  intro u hu
  unfold rowC at hu
  obtain ⟨l, hl, hul⟩ := List.mem_flatten.1 hu
  obtain ⟨j, hj, rfl⟩ := List.mem_iff_getElem.1 hl
  simp only [List.getElem_zipWith, letC] at hul
  simp at hul
  rcases hul with rfl | rfl | rfl
  · rfl
  · rfl
  · exact hds _ (List.getElem_mem _)
theorem erase_getD (ds : List Value) (k j : Nat) : (ds.eraseIdx k).getD j undef = if j < k then ds.getD j undef else ds.getD (j + 1) undef := by
  simp only [List.getD_eq_getElem?_getD, List.getElem?_eraseIdx]
  split <;> rfl
theorem erase_getL (ls : List Let) (k j : Nat) : (ls.eraseIdx k).getD j default = if j < k then ls.getD j default else ls.getD (j + 1) default := by
  simp only [List.getD_eq_getElem?_getD, List.getElem?_eraseIdx]
  split <;> rfl
/-- What Take answers. -/
def TakePost (p : Nat) (lv : Value) (ds : List Value) (ls : List Let) (sent i : Int) (w : World) (e : Ending) (w' : World) : Prop :=
  (atI ls i = false ∧ e = .returned (.tuple #[.agg #[.int .i64 0, .int .i64 0, .slice none 0 0], .int .i64 11]) ∧ Up w w') ∨
  (atI ls i = true ∧ ∃ d, e = .returned (.tuple #[.agg #[.int .i64 (ls.getD i.toNat default).1, .int .i64 (ls.getD i.toNat default).2.1, d], .int .i64 0]) ∧ DatB w' d (ls.getD i.toNat default).2.2 ∧
    ∃ lv', NetAt w' p lv' (ds.eraseIdx i.toNat) (ls.eraseIdx i.toNat) sent ∧ lv'.ownBlock = lv.ownBlock ∧ Chg (fun j => j = p ∨ lv.ownBlock = some j) w w')
set_option maxRecDepth 100000 in
set_option maxHeartbeats 4000000 in
theorem take_any (w : World) (p : Nat) (lv : Value) (ds : List Value) (ls : List Let) (sent i : Int) (h : NetAt w p lv ds ls sent) (hn : ls.length ≤ 100000) :
    Calls Try.prog 23 #[.pointer (some ⟨p, 0, none⟩), .int .i64 i] w (TakePost p lv ds ls sent i w) := by
  obtain ⟨W0, hW0⟩ : ∃ W0, W0 = w.alloc (.cells #[.int .i64 0, .int .i64 0, .slice none 0 0] 29) := ⟨_, rfl⟩
  have hu0 : Up w W0 := by rw [hW0]; exact (Chg.refl _ w).alloc _
  have hbx : W0.heap[w.heap.size]? = some (.cells #[.int .i64 0, .int .i64 0, .slice none 0 0] 29 (0, 0)) := by rw [hW0]; exact heap_alloc_last _ _
  have h0 := h.up hu0
  have hat := at_any W0 p lv ds ls sent i h0
  have HAT := Lib.hid hat
  have HU0 := Lib.hid hu0
  have HW := Lib.hid hW0
  have HBX := Lib.hid hbx
  by_cases ha : atI ls i = true
  · obtain ⟨k, rfl, hk⟩ := atI_nat ha
    unfold TakePost
    rw [Int.toNat_natCast]
    rw [if_pos ha] at HAT
    obtain ⟨A, c, rfl, hl1, hl2⟩ := h.shape
    obtain ⟨g, rfl⟩ : ∃ g, A = some ⟨g, 0, none⟩ := by
      rcases h.row.2 with ⟨_, hz⟩ | ⟨g, cap, cur, he, _⟩
      · omega
      · injection he with e1; exact ⟨g, e1⟩
    obtain ⟨r0, r1, r2⟩ := row_cells h0.row h0.len k hk
    have hdat := h0.dat k hk
    have c0 := h0.c0
    obtain ⟨x, hxe⟩ : ∃ x, ls.getD k default = x := ⟨_, rfl⟩
    rw [hxe] at hdat r0 r1 ⊢
    obtain ⟨f, t, xs⟩ := x
    dsimp only at hdat r0 r1 ⊢
    obtain ⟨A3, c3, hd3⟩ := own_shape hdat
    rw [hd3] at r2 hdat
    obtain ⟨W1, hW1⟩ : ∃ W1, W1 = W0.alloc (.cells #[.int .i64 f, .int .i64 t, .slice A3 xs.length c3] 29) := ⟨_, rfl⟩
    have hu1 : Up W0 W1 := by rw [hW1]; exact (Chg.refl _ W0).alloc _
    have hbx1 : W1.heap[W0.heap.size]? = some (.cells #[.int .i64 f, .int .i64 t, .slice A3 xs.length c3] 29 (0, 0)) := by rw [hW1]; exact heap_alloc_last _ _
    have h1 := h0.up hu1
    have hdel := delete_any W1 0 g c k ls ds h1.row h1.len hk hn h1.one
    have hgp : ¬ p = g := fun e => by
      rcases h1.row.2 with ⟨hz, _⟩ | ⟨g', cap, cur, he, _, hg, _⟩
      · cases hz
      · injection he with e1; injection e1 with e1; injection e1 with e1; subst e1
        have h3 := h1.obj
        rw [e, hg] at h3; cases h3
    have hgl : g < w.heap.size := (h.row.lt g rfl).2
    have hz0 : w.heap.size < W0.heap.size := (Array.getElem?_eq_some_iff.1 hbx).1
    have hpl : p < w.heap.size := (Array.getElem?_eq_some_iff.1 h.obj).1
    have c01 : (W0.alloc (.cells #[.int .i64 f, .int .i64 t, .slice A3 xs.length c3] 29)).cell? ⟨p, 0, none⟩ = some (.slice (some ⟨g, 0, none⟩) ls.length c) := by rw [← hW1]; exact h1.c0
    have HDEL := Lib.hid hdel
    have HW1 := Lib.hid hW1
    have HU1 := Lib.hid hu1
    have HBX1 := Lib.hid hbx1
    have HN1 := Lib.hid h1
    have HDAT := Lib.hid hdat
    have HA := Lib.hid ha
    clear hat hu0 hW0 hbx h0 hxe hd3 hdat hW1 hu1 hbx1 h1 hdel h ha
    go_enter Try.func23, Try.ntmps23
    go_wp2_with fail
    rw [← HW.out]
    refine HAT.out.mono ?_
    rintro e W0' ⟨rfl, rfl⟩
    rename World => W0
    go_wp2_with fail
    rw [← HW1.out]
    refine HDEL.out.mono ?_
    rintro e W3 ⟨rfl, ho3, hc3⟩
    have hobj := hc3.heap HN1.out.obj hgp
    have q0 := cell_of_row W3 p 0 _ _ _ hobj
    have fz := frozen_of_row W3 p 0 _ _ hobj
    have hb3 := hc3.heap HBX1.out (by omega)
    have y0 := cell_of_row W3 W0.heap.size 0 _ _ _ hb3
    have y1 := cell_of_row W3 W0.heap.size 1 _ _ _ hb3
    have y2 := cell_of_row W3 W0.heap.size 2 _ _ _ hb3
    have hz3 := hc3.heap (HU1.out.heap HBX.out (fun h => h)) (by omega)
    have z0 := cell_of_row W3 w.heap.size 0 _ _ _ hz3
    have z1 := cell_of_row W3 w.heap.size 1 _ _ _ hz3
    have z2 := cell_of_row W3 w.heap.size 2 _ _ _ hz3
    have fz2 : ∀ k, W3.frozen? ⟨w.heap.size, k, none⟩ = false := fun k => frozen_of_row W3 _ k _ _ hz3
    have HO3 := Lib.hid ho3
    have HC3 := Lib.hid hc3
    have HOBJ := Lib.hid hobj
    have HZ3 := Lib.hid hz3
    clear r0 r1 r2 c0 c01 ho3 hc3 hobj hb3 hz3 HAT HW
    go_wp2_with fail
    have g1 := (heap_setCell_other W3 ⟨p, 0, none⟩ w.heap.size (.slice (some ⟨g, 0, none⟩) (ls.length - 1) c) (by simp only; omega)).trans HZ3.out
    have g2 := heap_setCell_same _ w.heap.size 0 _ _ (.int .i64 f) g1
    have g3 := heap_setCell_same _ w.heap.size 1 _ _ (.int .i64 t) g2
    have g4 := heap_setCell_same _ w.heap.size 2 _ _ (.slice A3 xs.length c3) g3
    refine bodyPost_ret (v := .tuple #[.agg #[.int .i64 f, .int .i64 t, .slice A3 xs.length c3], .int .i64 0]) (results_row_tmp rfl _ _ w.heap.size 29 _ (0, 0) _ (by rfl) g4 _ (by rfl) Try.underlying29 rfl (by kernel_rfl)) rfl ?_
    obtain ⟨Wf, hWf⟩ : ∃ Wf, Wf = (((W3.setCell ⟨p, 0, none⟩ (.slice (some ⟨g, 0, none⟩) (ls.length - 1) c)).setCell ⟨w.heap.size, 0, none⟩ (.int .i64 f)).setCell ⟨w.heap.size, 1, none⟩ (.int .i64 t)).setCell ⟨w.heap.size, 2, none⟩ (.slice A3 xs.length c3) := ⟨_, rfl⟩
    rw [← hWf]
    have hcW : Chg (fun i => i = p ∨ i = w.heap.size) W3 Wf := by
      rw [hWf]
      exact ((((Chg.refl (fun i => i = p ∨ i = w.heap.size) W3).setCell ⟨p, 0, none⟩ (.inl (.inl rfl)) _).setCell ⟨w.heap.size, 0, none⟩ (.inl (.inr rfl)) _).setCell ⟨w.heap.size, 1, none⟩ (.inl (.inr rfl)) _).setCell ⟨w.heap.size, 2, none⟩ (.inl (.inr rfl)) _
    have hobj : Wf.heap[p]? = some (.cells #[.slice (some ⟨g, 0, none⟩) (ls.length - 1) c, .int .i64 sent] 57 (0, 0)) := by
      rw [hWf, heap_setCell_other _ _ _ _ (by simp only; omega), heap_setCell_other _ _ _ _ (by simp only; omega), heap_setCell_other _ _ _ _ (by simp only; omega)]
      exact heap_setCell_same W3 p 0 _ _ _ HOBJ.out
    have h5 : ∀ k cur fr, (fun i => i = p ∨ i = w.heap.size) k → W3.heap[k]? ≠ some (.cells cur 5 fr) := fun k cur fr hk hg => by
      rcases hk with hk | hk
      · subst hk; rw [HOBJ.out] at hg; cases hg
      · subst hk; rw [HZ3.out] at hg; cases hg
    have h6 : ∀ k cur fr, (fun i => i = g) k → W1.heap[k]? ≠ some (.cells cur 5 fr) := fun k cur fr hk hg => by
      have hk : k = g := hk
      subst hk
      exact row_not5 HN1.out.row k cur fr rfl hg
    have hel : (ls.eraseIdx k).length = ls.length - 1 := by rw [List.length_eraseIdx, if_pos hk]
    refine .inr ⟨HA.out, .slice A3 xs.length c3, rfl, ((HDAT.out.chg HU1.out (fun _ _ _ h => h.elim)).chg HC3.out h6).chg hcW h5, .slice (some ⟨g, 0, none⟩) (ls.length - 1) c, ⟨hobj, ?_, ?_, fun j hj => ?_⟩, rfl, ?_⟩
    · rw [hel, List.length_eraseIdx, if_pos (by rw [HN1.out.len]; exact hk), HN1.out.len]
    · rw [hel]
      exact own_chg HO3.out hcW (fun i hi hs => by
        have hi : g = i := by simpa [Value.ownBlock] using hi
        rcases hs with hs | hs <;> omega)
    · rw [hel] at hj
      rw [erase_getD, erase_getL]
      split
      · exact ((HN1.out.dat j (by omega)).chg HC3.out h6).chg hcW h5
      · exact ((HN1.out.dat (j + 1) (by omega)).chg HC3.out h6).chg hcW h5
    · exact (((HU0.out.trans HU1.out).mono (fun _ _ h => h.elim)).then HC3.out (fun i hi => .inl (.inr (by have hi : i = g := hi; subst hi; rfl)))).then hcW (fun i hi => by
        rcases hi with hi | hi
        · exact .inl (.inl hi)
        · exact .inr (by omega))
  · have ha' : atI ls i = false := by simpa using ha
    rw [if_neg ha] at HAT
    have z0 := cell_of_row W0 w.heap.size 0 _ _ _ hbx
    have z1 := cell_of_row W0 w.heap.size 1 _ _ _ hbx
    have z2 := cell_of_row W0 w.heap.size 2 _ _ _ hbx
    have fz2 : ∀ k, W0.frozen? ⟨w.heap.size, k, none⟩ = false := fun k => frozen_of_row W0 _ k _ _ hbx
    have HA := Lib.hid ha'
    clear hat hu0 hW0 hbx h0 h ha ha'
    go_enter Try.func23, Try.ntmps23
    go_wp2_with fail
    rw [← HW.out]
    refine HAT.out.mono ?_
    rintro e W0' ⟨rfl, rfl⟩
    rename World => W0
    go_wp2_with fail
    have g2 := heap_setCell_same _ w.heap.size 0 _ _ (.int .i64 0) HBX.out
    have g3 := heap_setCell_same _ w.heap.size 1 _ _ (.int .i64 0) g2
    have g4 := heap_setCell_same _ w.heap.size 2 _ _ (.slice none 0 0) g3
    refine bodyPost_ret (v := .tuple #[.agg #[.int .i64 0, .int .i64 0, .slice none 0 0], .int .i64 11]) (results_row_tmp rfl _ _ w.heap.size 29 _ (0, 0) _ (by rfl) g4 _ (by rfl) Try.underlying29 rfl (by kernel_rfl)) rfl ?_
    exact .inl ⟨HA.out, rfl, ((HU0.out.setCell ⟨w.heap.size, 0, none⟩ (.inr (Nat.le_refl _)) _).setCell ⟨w.heap.size, 1, none⟩ (.inr (Nat.le_refl _)) _).setCell ⟨w.heap.size, 2, none⟩ (.inr (Nat.le_refl _)) _⟩
end Go.Proofs.Ytofmblkmfbioiaa
