/-
  What the readings of numbers, of a pair of numbers, and of three numbers in a struct give.
-/
import Derived.Test.YtaahffminoekfaaDoorG
namespace Go.Proofs.YtaahffminoekfaaDoor
open Go.ChangeShapes Go.WideShapes Go.ChangeAt Go.RowKit
section
variable {H : Type} {enc : TypeId × Value → H} {W : World} {base b0 : Nat} {sp : Nat → Bool} {held : Bool} {r : Reach} {v : Value} {d : DataW H} {p : List MemPlace}
def I64 (n : Int) : Prop := -9223372036854775808 ≤ n ∧ n ≤ 9223372036854775807
theorem trod_i64 {P : Program} {t : TypeId} (ht : P.underlying t = some (.int .i64)) {fuel : Nat} {cs : List Value} {x : DataW H × List MemPlace} (h : DataW.trod enc P W base sp held fuel t cs = some x) : ∃ n, cs = [.int .i64 n] ∧ I64 n := by
  obtain ⟨n, rfl, _, hw⟩ := DataW.trod_int ht h
  exact ⟨n, rfl, bounds_i64 hw⟩
set_option maxRecDepth 100000 in
theorem open_i64 (_hv : Value.okWide Tryd.prog W r b0 3 v) (h : DataW.Trod enc Tryd.prog W base sp held 3 v d p) : ∃ n, v = .int .i64 n ∧ I64 n := by
  obtain ⟨n, rfl⟩ := okWide_int Tryd.underlying3 _hv
  obtain ⟨fuel, hf⟩ := h
  obtain ⟨m, hm, hb⟩ := trod_i64 Tryd.underlying3 hf
  simp [Value.cells] at hm
  subst hm
  exact ⟨n, rfl, hb⟩
set_option maxRecDepth 100000 in
theorem cells70 : Tryd.prog.cellsOf 70 = 2 := by kernel_rfl
set_option maxRecDepth 100000 in
theorem cells3 : Tryd.prog.cellsOf 3 = 1 := by kernel_rfl
set_option maxRecDepth 100000 in
theorem cells59 : Tryd.prog.cellsOf 59 = 3 := by kernel_rfl
set_option maxRecDepth 100000 in
theorem open_t70 (hv : Value.okWide Tryd.prog W r b0 70 v) (h : DataW.Trod enc Tryd.prog W base sp held 70 v d p) : ∃ a b, v = .agg #[.int .i64 a, .int .i64 b] ∧ I64 a ∧ I64 b := by
  simp only [Value.okWide, Tryd.underlying70] at hv
  obtain ⟨cs, rfl, hsz, _⟩ := hv
  rw [cells70] at hsz
  obtain ⟨fuel, hf⟩ := h
  cases fuel with
  | zero => simp [DataW.trod] at hf
  | succ m =>
    rw [DataW.trod_step] at hf
    unfold DataW.trodStep at hf
    simp only [Tryd.underlying70, Value.cells, cells3] at hf
    rw [if_pos (by rw [cells70]; simpa using hsz)] at hf
    simp only [Option.map_eq_some_iff] at hf
    obtain ⟨ys, hy, _⟩ := hf
    obtain ⟨l⟩ := cs
    match l, hsz with
    | [c0, c1], _ =>
      simp only [List.range_succ, List.range_zero, List.nil_append, List.cons_append, List.mapM_cons, List.mapM_nil, bind, Option.bind_eq_some_iff, pure] at hy
      obtain ⟨y0, h0, _, ⟨y1, h1, _⟩, _⟩ := hy
      obtain ⟨n0, e0, b0⟩ := trod_i64 Tryd.underlying3 h0
      obtain ⟨n1, e1, b1⟩ := trod_i64 Tryd.underlying3 h1
      simp at e0 e1
      subst e0 e1
      exact ⟨n0, n1, rfl, b0, b1⟩
set_option maxRecDepth 100000 in
theorem open_t59 (hv : Value.okWide Tryd.prog W r b0 59 v) (h : DataW.Trod enc Tryd.prog W base sp held 59 v d p) : ∃ a b c, v = .agg #[.int .i64 a, .int .i64 b, .int .i64 c] ∧ I64 a ∧ I64 b ∧ I64 c := by
  obtain ⟨cs, rfl, hsz⟩ := okWide_struct Tryd.underlying59 hv
  rw [cells59] at hsz
  obtain ⟨fuel, hf⟩ := h
  cases fuel with
  | zero => simp [DataW.trod] at hf
  | succ m =>
    rw [DataW.trod_step] at hf
    unfold DataW.trodStep at hf
    simp only [Tryd.underlying59, Value.cells] at hf
    rw [if_pos (by rw [cells59]; simpa using hsz)] at hf
    simp only [Option.map_eq_some_iff] at hf
    obtain ⟨ys, hy, _⟩ := hf
    obtain ⟨l⟩ := cs
    match l, hsz with
    | [c0, c1, c2], _ =>
      simp only [List.mapM_cons, List.mapM_nil, bind, Option.bind_eq_some_iff, pure, cells3] at hy
      obtain ⟨y0, h0, _, ⟨y1, h1, _, ⟨y2, h2, _⟩, _⟩, _⟩ := hy
      obtain ⟨n0, e0, b0⟩ := trod_i64 Tryd.underlying3 h0
      obtain ⟨n1, e1, b1⟩ := trod_i64 Tryd.underlying3 h1
      obtain ⟨n2, e2, b2⟩ := trod_i64 Tryd.underlying3 h2
      simp at e0 e1 e2
      subst e0 e1 e2
      exact ⟨n0, n1, n2, rfl, b0, b1, b2⟩
end
end Go.Proofs.YtaahffminoekfaaDoor
