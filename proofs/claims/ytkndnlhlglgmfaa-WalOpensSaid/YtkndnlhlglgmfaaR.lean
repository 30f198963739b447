/-
  What the readings of a pair of numbers and of a list of numbers give.
-/
import Derived.Test.YtkndnlhlglgmfaaE8
namespace Go.Proofs.Ytkndnlhlglgmfaa
open Go.ChangeShapes Go.WideShapes Go.ChangeAt Go.RowKit
section
variable {H : Type} {enc : TypeId × Value → H} {W : World} {base b0 : Nat} {sp : Nat → Bool} {held : Bool} {r : Reach} {v : Value} {d : DataW H} {p : List MemPlace}
set_option maxRecDepth 100000 in
theorem cells39 : Try.prog.cellsOf 39 = 2 := by kernel_rfl
set_option maxRecDepth 100000 in
theorem open_t39 (hv : Value.okWide Try.prog W r b0 39 v) (h : DataW.Trod enc Try.prog W base sp held 39 v d p) : ∃ a b, v = .agg #[.int .i64 a, .int .i64 b] ∧ I64 a ∧ I64 b := by
  simp only [Value.okWide, Try.underlying39] at hv
  obtain ⟨cs, rfl, hsz, _⟩ := hv
  rw [cells39] at hsz
  obtain ⟨fuel, hf⟩ := h
  cases fuel with
  | zero => simp [DataW.trod] at hf
  | succ m =>
    rw [DataW.trod_step] at hf
    unfold DataW.trodStep at hf
    simp only [Try.underlying39, Value.cells, cells3] at hf
    rw [if_pos (by rw [cells39]; simpa using hsz)] at hf
    simp only [Option.map_eq_some_iff] at hf
    obtain ⟨ys, hy, _⟩ := hf
    obtain ⟨l⟩ := cs
    match l, hsz with
    | [c0, c1], _ =>
      simp only [List.range_succ, List.range_zero, List.nil_append, List.cons_append, List.mapM_cons, List.mapM_nil, bind, Option.bind_eq_some_iff, pure] at hy
      obtain ⟨y0, h0, _, ⟨y1, h1, _⟩, _⟩ := hy
      obtain ⟨n0, e0, b0⟩ := trod_i64 Try.underlying3 h0
      obtain ⟨n1, e1, b1⟩ := trod_i64 Try.underlying3 h1
      simp at e0 e1
      subst e0 e1
      exact ⟨n0, n1, rfl, b0, b1⟩
end
section
variable {H : Type} {enc : TypeId × Value → H} {W : World} {base : Nat} {v : Value} {d : DataW H} {p : List MemPlace}
set_option maxRecDepth 100000 in
theorem open_t29 (hv : Value.okWide Try.prog W .any base 29 v) (h : DataW.Trod enc Try.prog W 0 (fun _ => true) true 29 v d p) : ∃ zs, SlI W v zs ∧ ∀ j, I64 (zs.getD j 0) := by
  obtain ⟨a0, len, cap, rfl⟩ := okWide_slice Try.underlying29 hv
  obtain ⟨fuel, hf⟩ := h
  obtain ⟨u, zs, hc, h1, h2⟩ := trod_nums hf
  simp [Value.cells] at hc
  subst hc
  exact ⟨zs, h1, h2⟩
end
end Go.Proofs.Ytkndnlhlglgmfaa
