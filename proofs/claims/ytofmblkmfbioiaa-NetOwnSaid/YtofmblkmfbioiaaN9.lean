/-
  slices.Delete of one letter, walked.
-/
import Derived.Test.YtofmblkmfbioiaaN8
import Derived.Lib.SliceRun
import Derived.Laws.OwnMore
namespace Go.Proofs.Ytofmblkmfbioiaa
open Go.RowKit
theorem run_clear_one (w : World) (ty : TypeId) (b o c : Nat) (hc : ∀ j, j < 3 → (w.cell? ⟨b, o + j, none⟩).isSome = true) (hf : ∀ j, j < 3 → w.frozen? ⟨b, o + j, none⟩ = false) :
    (Builtin.clear_ #[41] ty #[.slice (some ⟨b, o, none⟩) 1 c]).run Try.prog w = .ok (.tuple #[]) (w.setCells b o [.int .i64 0, .int .i64 0, .slice none 0 0]) := by
  have hst := run_storeCells_cells (P := Try.prog) b o [.int .i64 0, .int .i64 0, .slice none 0 0] 0 w (by simpa using hc) (by simpa using hf) (by intro v hv; simp at hv; rcases hv with rfl | rfl | rfl <;> rfl)
  simp only [Nat.add_zero] at hst
  have hz : ∀ w, (zeroValue 29).run Try.prog w = .ok (.agg #[.int .i64 0, .int .i64 0, .slice none 0 0]) w := fun w => by
    obtain ⟨i, hi, hzz⟩ := Option.map_eq_some_iff.1 info29z
    simp only [Prod.mk.injEq] at hzz
    simp [zeroValue, typeInfo, hi, hzz.1]
  have hzc : (Builtin.zeroCells (#[.int .i64 0, .int .i64 0, .slice none 0 0] : Array Value) 1).toList = [.int .i64 0, .int .i64 0, .slice none 0 0] := by kernel_rfl
  simp [Builtin.clear_, run_underlying Try.underlying41, hz, Value.cells, hzc, hst]
theorem Chg.setCells {S : Nat → Prop} {a : World} (b : Nat) (hb : S b ∨ a.heap.size ≤ b) : ∀ (vs : List Value) (o : Nat) (w : World), Chg S a w → Chg S a (w.setCells b o vs)
  | [], _, _, h => h
  | v :: r, o, w, h => by
    rw [World.setCells]
    exact Chg.setCells b hb r (o + 1) _ (h.setCell ⟨b, o, none⟩ hb v)
theorem own_tail {base g c m : Nat} {xs : List Value} : ∀ (vs : List Value) (o : Nat) (w : World), w.ownsRow base 29 3 (.slice (some ⟨g, 0, none⟩) m c) m xs → m * 3 ≤ o → (w.setCells g o vs).ownsRow base 29 3 (.slice (some ⟨g, 0, none⟩) m c) m xs
  | [], _, _, h, _ => h
  | v :: r, o, w, h, ho => by
    rw [World.setCells]
    refine own_tail r (o + 1) _ ?_ (by omega)
    refine ⟨h.1, ?_⟩
    rcases h.2 with ⟨h0, _⟩ | ⟨g', cap, cur, he, hb, hg, h1, h2, h3, h4⟩
    · cases h0
    · injection he with e1 _ e3
      injection e1 with e1
      injection e1 with e1
      subst e1 e3
      refine .inr ⟨g, c, _, rfl, hb, heap_setCell_same w g o cur 29 v hg, h1, h2, by simp [h3], ?_⟩
      rw [Array.toList_setIfInBounds, List.take_set, h4]
      exact List.set_eq_of_length_le (by rw [h.1]; exact ho)
theorem rowC_len (ls : List Let) (ds : List Value) (h : ds.length = ls.length) : (rowC ls ds).length = 3 * ls.length := by
  induction ls generalizing ds with
  | nil => simp [rowC]
  | cons x ls ih =>
    cases ds with
    | nil => simp at h
    | cons d ds =>
      have := ih ds (by simpa using h)
      simp only [rowC, List.zipWith_cons_cons, List.flatten_cons, List.length_append, List.length_cons] at this ⊢
      rw [this]
      simp [letC]
      omega
theorem rowC_erase : ∀ (ls : List Let) (ds : List Value) (k : Nat), ds.length = ls.length → k < ls.length → (rowC ls ds).take (3 * k) ++ (rowC ls ds).drop (3 * (k + 1)) = rowC (ls.eraseIdx k) (ds.eraseIdx k)
  | [], _, _, _, h => by simp at h
  | _ :: _, [], _, h, _ => by simp at h
  | x :: ls, d :: ds, 0, _, _ => by simp [rowC, letC]
  | x :: ls, d :: ds, k + 1, hd, hk => by
    have ih := rowC_erase ls ds k (by simpa using hd) (by simpa using hk)
    have e : ∀ (y : Let) (l : List Let) (d1 : Value) (d2 : List Value), rowC (y :: l) (d1 :: d2) = letC y d1 ++ rowC l d2 := fun _ _ _ _ => by simp [rowC]
    have hl : (letC x d).length = 3 := rfl
    rw [List.eraseIdx_cons_succ, List.eraseIdx_cons_succ, e, e, ← ih, List.take_append, List.drop_append, hl, List.take_of_length_le (by omega), List.drop_of_length_le (by omega), show 3 * (k + 1) - 3 = 3 * k by omega, show 3 * (k + 1 + 1) - 3 = 3 * (k + 1) by omega]
    simp
set_option maxRecDepth 100000 in
set_option maxHeartbeats 4000000 in
theorem delete_any (w : World) (base g c k : Nat) (ls : List Let) (ds : List Value) (h : w.ownsRow base 29 3 (.slice (some ⟨g, 0, none⟩) ls.length c) ls.length (rowC ls ds)) (hd : ds.length = ls.length) (hk : k < ls.length) (hn : ls.length ≤ 100000) (hone : ∀ u ∈ rowC ls ds, u.oneCell' = true) :
    Calls Try.prog 34 #[.slice (some ⟨g, 0, none⟩) ls.length c, .int .i64 k, .int .i64 (k + 1)] w (fun e w' => e = .returned (.slice (some ⟨g, 0, none⟩) (ls.length - 1) c) ∧ w'.ownsRow base 29 3 (.slice (some ⟨g, 0, none⟩) (ls.length - 1) c) (ls.length - 1) (rowC (ls.eraseIdx k) (ds.eraseIdx k)) ∧ Chg (fun i => i = g) w w') := by
  have hcc : ls.length ≤ c ∧ c ≤ 9223372036854775807 := by
    rcases h.2 with ⟨h0, _⟩ | ⟨g', cap, cur, he, _, _, h1, h2, _⟩
    · cases h0
    · injection he with _ _ e3
      subst e3
      exact ⟨h1, by simpa [maxLen] using h2⟩
  obtain ⟨hc1, hc2⟩ := hcc
  have H := Lib.hid h
  have HONE := Lib.hid hone
  clear h hone
  go_enter Try.func34, Try.ntmps34
  go_wp2_with fail
  refine MT.region_mono Up [fun v _ => v = .slice (some ⟨g, 0, none⟩) ls.length c,
      fun v _ => v = .int .i64 (k : Int),
      fun v _ => v = .slice (some ⟨g, 0, none⟩) k c,
      fun v _ => v = .slice (some ⟨g, 0, none⟩) ls.length c,
      fun v _ => v = .int .i64 ((k : Int) + 1),
      fun v _ => v = .slice (if c = k + 1 then some ⟨g, 0, none⟩ else some ⟨g, (k + 1) * 3, none⟩) (ls.length - (k + 1)) (c - (k + 1))] (by kernel_rfl) (by kernel_rfl) (Chg.refl _) (fun _ _ _ => Chg.trans) (by simp) ?_ ?_ ?_
  · simp only [List.forall_mem_cons]
    exact ⟨fun _ _ _ _ _ h => h, fun _ _ _ _ _ h => h, fun _ _ _ _ _ h => h, fun _ _ _ _ _ h => h, fun _ _ _ _ _ h => h, fun _ _ _ _ _ h => h, by simp⟩
  · refine ⟨?_, ?_, ?_, ?_, ?_, ?_, trivial⟩
    · intro ρ w1 hw h0 hc hg hf hd
      have s0 : ρ (.tmp 0) = .slice (some ⟨g, 0, none⟩) ls.length c := h0 0 (by kernel_rfl)
      refine ⟨fun _ => ?_, fun h => by cases h⟩
      clear h0 hg hd
      exact gives_move rfl ⟨Chg.refl _ _, s0⟩
    · intro ρ w1 hw h0 hc hg hf hd
      have s1 : ρ (.tmp 1) = .int .i64 (k : Int) := h0 1 (by kernel_rfl)
      refine ⟨fun _ => ?_, fun h => by cases h⟩
      clear h0 hg hd
      exact gives_move rfl ⟨Chg.refl _ _, s1⟩
    · intro ρ w1 hw h0 hc hg hf hd
      have d0 := hd ⟨0, .data⟩ (by simp) rfl _ _ _ rfl rfl rfl
      have d1 := hd ⟨1, .data⟩ (by simp) rfl _ _ _ rfl rfl rfl
      refine ⟨fun _ => ?_, fun h => by cases h⟩
      clear h0 hg hd
      clear hf
      refine Gives.value (w' := w1) ?_ ⟨Chg.refl _ _, rfl⟩
      go_simp
      intro h; omega
    · intro ρ w1 hw h0 hc hg hf hd
      have s0 : ρ (.tmp 0) = .slice (some ⟨g, 0, none⟩) ls.length c := h0 0 (by kernel_rfl)
      refine ⟨fun _ => ?_, fun h => by cases h⟩
      clear h0 hg hd
      exact gives_move rfl ⟨Chg.refl _ _, s0⟩
    · intro ρ w1 hw h0 hc hg hf hd
      have s2 : ρ (.tmp 2) = .int .i64 ((k : Int) + 1) := h0 2 (by kernel_rfl)
      refine ⟨fun _ => ?_, fun h => by cases h⟩
      clear h0 hg hd
      exact gives_move rfl ⟨Chg.refl _ _, s2⟩
    · intro ρ w1 hw h0 hc hg hf hd
      have d3 := hd ⟨3, .data⟩ (by simp) rfl _ _ _ rfl rfl rfl
      have d4 := hd ⟨4, .data⟩ (by simp) rfl _ _ _ rfl rfl rfl
      refine ⟨fun _ => ?_, fun h => by cases h⟩
      clear h0 hg hd
      clear hf
      refine Gives.value (w' := w1) ?_ ⟨Chg.refl _ _, rfl⟩
      by_cases hck : c = k + 1
      all_goals
        simp only [hck, if_true, if_false]
        go_simp
        first
          | done
          | (intro h; have := h (by omega); omega)
          | rw [if_pos (by omega)]
  · intro vs w2 hw hr
    have h2 := hr 2 _ rfl
    have h5 := hr 5 _ rfl
    clear hr
    dsimp only [putsL, restL]
    simp only [Act.put, List.setIfInBounds_toArray, List.set_cons_zero, List.set_cons_succ]
    rw [h2, h5]
    have hu2 : Up w w2 := (Chg.refl (fun _ => False) w).drew.trans hw
    have hown := own_chg H.out hu2 (fun _ _ h => h)
    have hrl := rowC_len ls ds hd
    obtain ⟨cur, hg, hcur, htk, hbg⟩ : ∃ cur, w2.heap[g]? = some (.cells cur 29 (0, 0)) ∧ cur.size = c * 3 ∧ cur.toList.take (ls.length * 3) = rowC ls ds ∧ base ≤ g := by
      rcases hown.2 with ⟨h0, _⟩ | ⟨g', cap, cur, he, hb, hg, h1, h2, h3, h4⟩
      · cases h0
      · injection he with e1 _ e3
        injection e1 with e1
        injection e1 with e1
        subst e1 e3
        exact ⟨cur, hg, h3, h4, hb⟩
    obtain ⟨i, hi, hzz⟩ := Option.map_eq_some_iff.1 info29z
    simp only [Prod.mk.injEq] at hzz
    have hpre : w2.ownsRow base 29 3 (.slice (some ⟨g, 0, none⟩) k c) k ((rowC ls ds).take (3 * k)) := by
      refine ⟨by rw [List.length_take, hrl]; omega, .inr ⟨g, c, cur, rfl, hbg, hg, by omega, by unfold maxLen; omega, hcur, ?_⟩⟩
      rw [← htk, List.take_take, show min (3 * k) (ls.length * 3) = k * 3 by omega]
    have hnews : ∀ j u, ((rowC ls ds).drop (3 * (k + 1)))[j]? = some u → w2.cell? ((if c = k + 1 then (⟨g, 0, none⟩ : Addr) else ⟨g, (k + 1) * 3, none⟩).add j) = some u := fun j u hu => by
      rw [List.getElem?_drop] at hu
      have hj : 3 * (k + 1) + j < 3 * ls.length := by rw [← hrl]; exact (List.getElem?_eq_some_iff.1 hu).1
      rw [if_neg (by omega), addr_add, show (k + 1) * 3 + j = 3 * (k + 1) + j by omega]
      have := hown.cells rfl (3 * (k + 1) + j) u hu
      rwa [addr_add, Nat.zero_add] at this
    have hone : ∀ u ∈ (rowC ls ds).drop (3 * (k + 1)), u.oneCell' = true := fun u hu => HONE.out u (List.mem_of_mem_drop hu)
    obtain ⟨w3, hrun, hown3, hgr⟩ := run_append_fits (P := Try.prog) w2 base 41 41 29 i 3 Try.underlying41 hi hzz.2.1 g k c _ hpre (if c = k + 1 then (⟨g, 0, none⟩ : Addr) else ⟨g, (k + 1) * 3, none⟩) (ls.length - (k + 1)) (c - (k + 1)) ((rowC ls ds).drop (3 * (k + 1))) (by rw [List.length_drop, hrl]; omega) hnews hone (by omega)
    rw [rowC_erase ls ds k hd hk, show k + (ls.length - (k + 1)) = ls.length - 1 by omega] at hown3
    rw [show k + (ls.length - (k + 1)) = ls.length - 1 by omega] at hrun
    have hrun' : (Builtin.append_ #[41, 41] 41 #[.slice (some ⟨g, 0, none⟩) k c, .slice (if c = k + 1 then some ⟨g, 0, none⟩ else some ⟨g, (k + 1) * 3, none⟩) (ls.length - (k + 1)) (c - (k + 1))]).run Try.prog w2 = .ok (.slice (some ⟨g, 0, none⟩) (ls.length - 1) c) w3 := by
      rw [← hrun]
      split <;> rfl
    have hcg : Chg (fun i => i = g) w2 w3 := (Chg.of_grownBy hgr).mono (fun i _ hi => by injection hi)
    have HRUN := Lib.hid hrun'
    have HOWN3 := Lib.hid hown3
    have HU2 := Lib.hid (hu2.mono (T := fun i => i = g) (fun _ _ h => h.elim))
    have HGR := Lib.hid hcg
    obtain ⟨cur3, hg3, hcur3, htk3⟩ : ∃ cur, w3.heap[g]? = some (.cells cur 29 (0, 0)) ∧ cur.size = c * 3 ∧ cur.toList.take ((ls.length - 1) * 3) = rowC (ls.eraseIdx k) (ds.eraseIdx k) := by
      rcases hown3.2 with ⟨h0, _⟩ | ⟨g', cap, cur, he, hb, hg, h1, h2, h3, h4⟩
      · cases h0
      · injection he with e1 _ e3
        injection e1 with e1
        injection e1 with e1
        subst e1 e3
        exact ⟨cur, hg, h3, h4⟩
    have hclr : (Builtin.clear_ #[41] 0 #[.slice (some ⟨g, (ls.length - 1) * 3, none⟩) (ls.length - (ls.length - 1)) (c - (ls.length - 1))]).run Try.prog w3 = .ok (.tuple #[]) (w3.setCells g ((ls.length - 1) * 3) [.int .i64 0, .int .i64 0, .slice none 0 0]) := by
      rw [show ls.length - (ls.length - 1) = 1 by omega]
      exact run_clear_one w3 0 g ((ls.length - 1) * 3) (c - (ls.length - 1)) (fun j hj => by rw [cell_of_row _ _ _ _ _ _ hg3]; simp [show (ls.length - 1) * 3 + j < cur3.size by omega]) (fun j hj => frozen_of_row w3 g _ _ _ hg3)
    have HG3 := Lib.hid hg3
    have HTK := Lib.hid htk3
    clear hw h2 h5 hu2 hown hg htk hi hzz hpre hnews hone hrun hrun' hown3 hgr hcg hg3 htk3
    go_wp2_with (at_builtin; refine wpList_run_append rfl _ _ 41 rfl _ _ rfl rfl 41 rfl HRUN.out ?_)
    all_goals
      go_ret
      have ht := own_tail [.int .i64 0, .int .i64 0, .slice none 0 0] ((ls.length - 1) * 3) w3 HOWN3.out (Nat.le_refl _)
      have hC := HU2.out.trans (Chg.setCells (S := fun i => i = g) g (.inl rfl) [.int .i64 0, .int .i64 0, .slice none 0 0] ((ls.length - 1) * 3) _ HGR.out)
      first
        | exact ⟨rfl, ht, hC⟩
        | (have hck : c = k + 1 := by assumption
           rw [hck] at ht
           exact ⟨rfl, ht, hC⟩)
end Go.Proofs.Ytofmblkmfbioiaa
