/-
  Bytes that are written part by part: what is needed of rows of rows.
-/
import Derived.Test.YtaahffminoekfaaDoorL1
import Derived.Test.YtaahffminoekfaaDoorG
namespace Go.Proofs.YtaahffminoekfaaDoor
open Go.RowKit Go.ChangeShapes Go.WideShapes
theorem u8s_set (xs : List Int) (j : Nat) (y : Int) : (u8s xs).set j (.int .u8 y) = u8s (xs.set j y) := by simp [u8s, List.map_set]
theorem own_set {w : World} {base g n cap : Nat} {xs : List Int} (h : w.ownsRow base 5 1 (.slice (some ⟨g, 0, none⟩) n cap) n (u8s xs)) (j : Nat) (_hj : j < n) (y : Int) :
    (w.setCell ⟨g, j, none⟩ (.int .u8 y)).ownsRow base 5 1 (.slice (some ⟨g, 0, none⟩) n cap) n (u8s (xs.set j y)) := by
  refine ⟨by have := h.1; simpa [u8s] using this, ?_⟩
  rcases h.2 with ⟨h1, _⟩ | ⟨g', cap', cur, he, hb, hg, h1, h2, h3, h4⟩
  · cases h1
  · injection he with h5 h6 h7
    injection h5 with h5
    injection h5 with h5
    subst h5 h7
    refine .inr ⟨g, cap, cur.setIfInBounds j (.int .u8 y), rfl, hb, heap_setCell_same _ _ _ _ _ _ hg, h1, h2, by simpa using h3, ?_⟩
    rw [Array.toList_setIfInBounds, List.take_set, h4, u8s_set]
/-- 'append(v0, v...)', with what is known of its block. -/
theorem app_more2 (W : World) (base n : Nat) (v0 v : Value) (l xs : List Int) (h0 : W.ownsRow base 5 1 v0 n (u8s l)) (h : SlB W v xs) (hn : n + xs.length ≤ 100000000) (hb : base ≤ W.heap.size) :
    ∃ A c w1, (Builtin.append_ #[22, 22] 22 #[v0, v]).run Tryd.prog W = .ok (.slice A (n + xs.length) c) w1 ∧
      w1.ownsRow base 5 1 (.slice A (n + xs.length) c) (n + xs.length) (u8s (l ++ xs)) ∧ Chg (fun i => v0.ownBlock = some i) W w1 ∧
      ((Value.slice A (n + xs.length) c).ownBlock = v0.ownBlock ∨ ∃ g, (Value.slice A (n + xs.length) c).ownBlock = some g ∧ W.heap.size ≤ g) := by
  obtain ⟨v', w', hr, ho, hg, _, hb⟩ := ap_run (P := Tryd.prog) W 22 22 base 5 (.int .u8 0) 1 1 Tryd.underlying22 (by kernel_rfl) rfl (by decide) v0 n (u8s l) h0 v xs.length (u8s xs) h (u8s_one xs) (by omega) (by omega) hb
  obtain ⟨A, c, rfl⟩ := own_shape ho
  refine ⟨A, c, w', hr, by simpa [u8s] using ho, (Chg.of_grownBy hg).mono (fun i _ hi => hi.symm), ?_⟩
  rcases hb with hb | hb
  · exact .inl hb
  · exact .inr ⟨_, hb, Nat.le_refl _⟩
/-- A slice of slices of bytes that is read. -/
def SlBB (w : World) (v : Value) (ls : List (List Int)) : Prop :=
  (v = .slice none 0 0 ∧ ls = []) ∨ ∃ (a : Addr) (cap : Nat) (V : Nat → Value), v = .slice (some a) ls.length cap ∧ ls.length ≤ cap ∧ cap ≤ maxLen ∧ ∀ r, r < ls.length → w.cell? (a.add r) = some (V r) ∧ SlB w (V r) (ls.getD r []) ∧ Bytes (ls.getD r [])
theorem SlBB.form {w : World} {v : Value} {ls : List (List Int)} (h : SlBB w v ls) (hn : 0 < ls.length) : ∃ (b off cap : Nat) (V : Nat → Value), v = .slice (some ⟨b, off, none⟩) ls.length cap ∧ ls.length ≤ cap ∧ cap ≤ maxLen ∧ b < w.heap.size ∧
    ∀ r, r < ls.length → w.cell? ⟨b, off + r, none⟩ = some (V r) ∧ SlB w (V r) (ls.getD r []) ∧ Bytes (ls.getD r []) := by
  rcases h with ⟨_, rfl⟩ | ⟨⟨b, off, sp⟩, cap, V, rfl, h1, h2, hr⟩
  · simp at hn
  · have h0 := (hr 0 hn).1
    have : sp = none := by
      cases sp with
      | none => rfl
      | some q =>
        exfalso
        simp only [Addr.add, if_pos] at h0
        unfold World.cell? at h0
        cases hb : w.heap[b]? with
        | none => simp [hb] at h0
        | some o => cases o <;> simp [hb] at h0
    subst this
    rw [addr_add] at h0
    refine ⟨b, off, cap, V, rfl, h1, h2, World.block_lt_of_cell? w _ h0, fun r hrl => ?_⟩
    have := hr r hrl
    rwa [addr_add] at this
set_option maxRecDepth 100000
theorem cells22 : Tryd.prog.cellsOf 22 = 1 := by kernel_rfl
theorem open_t29 {H : Type} {enc : TypeId × Value → H} {W : World} {base : Nat} {v : Value} {d : DataW H} {p : List MemPlace} (hv : Value.okWide Tryd.prog W .any base 29 v)
    (h : DataW.Trod enc Tryd.prog W 0 (fun _ => true) true 29 v d p) : ∃ ls, SlBB W v ls := by
  obtain ⟨a0, len, cap, rfl⟩ := okWide_slice Tryd.underlying29 hv
  obtain ⟨fuel, hf⟩ := h
  rcases Go.Deep.open_int_rows Tryd.underlying29 Tryd.underlying22 Tryd.underlying5 cells22 cells5 hf with ⟨hcs, hx⟩ | ⟨a, len', cap', A, L, C, Z, hcs, _, hl, hm, hx, hr⟩
  · simp [Value.cells] at hcs
    obtain ⟨rfl, rfl, rfl⟩ := hcs
    exact ⟨[], .inl ⟨rfl, rfl⟩⟩
  · simp [Value.cells] at hcs
    obtain ⟨rfl, rfl, rfl⟩ := hcs
    refine ⟨(List.range len).map fun r => (Z r).take (L r), .inr ⟨a, cap, fun r => .slice (A r) (L r) (C r), by simp, by simpa using hl, hm, fun r hrl => ?_⟩⟩
    simp only [List.length_map, List.length_range] at hrl
    have hz : ((List.range len).map fun r => (Z r).take (L r)).getD r [] = (Z r).take (L r) := by simp [List.getD_eq_getElem?_getD, hrl]
    rw [hz]
    obtain ⟨h1, h2, h3, h4, h5, h6, h7⟩ := hr r (by omega)
    have hlen : ((Z r).take (L r)).length = L r := by rw [List.length_take]; omega
    refine ⟨h1, ?_, fun j => ?_⟩
    · show SlB W (.slice (A r) (L r) (C r)) _
      cases hA : A r with
      | none =>
        have hc := h6 hA
        have hL : L r = 0 := by omega
        rw [hL, hc]
        exact .inl ⟨rfl, by simp, by simp [u8s]⟩
      | some a' =>
        refine .inr ⟨a', C r, by rw [hlen], by rw [u8s_len]; omega, by rw [hlen]; exact h2, by simpa [maxLen] using h3, fun j u hu => ?_⟩
        have hj : j < ((Z r).take (L r)).length := by have := (List.getElem?_eq_some_iff.1 hu).1; rwa [u8s_len] at this
        rw [u8s_at hj] at hu
        cases hu
        rw [getD_take _ _ _ (by omega)]
        exact (h7 a' hA).2 j (by omega)
    · by_cases hj : j < L r
      · rw [getD_take _ _ _ hj, List.getD_eq_getElem?_getD, List.getElem?_eq_getElem (show j < (Z r).length by omega)]
        exact bounds_u8 (h5 _ (List.getElem_mem _))
      · rw [List.getD_eq_getElem?_getD, List.getElem?_eq_none (by omega)]; simp
theorem flat_succ (ls : List (List Int)) (k : Nat) (h : k < ls.length) : (ls.take (k + 1)).flatten = (ls.take k).flatten ++ ls.getD k [] := by
  rw [List.take_succ_eq_append_getElem h, List.flatten_append]
  simp [List.getD_eq_getElem?_getD, List.getElem?_eq_getElem h]
end Go.Proofs.YtaahffminoekfaaDoor
