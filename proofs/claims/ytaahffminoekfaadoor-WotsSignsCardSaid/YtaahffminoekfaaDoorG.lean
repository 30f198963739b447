/-
  What the readings of the arguments give: arrays of bytes; slices of slices.
-/
import Derived.Test.YtaahffminoekfaaDoorF
import Derived.Deep.Matrix
namespace Go.Proofs.YtaahffminoekfaaDoor
open Go.ChangeShapes Go.WideShapes Go.ChangeAt Go.RowKit
section
variable {H : Type} {enc : TypeId × Value → H} {P : Program} {W : World} {base : Nat} {sp : Nat → Bool} {held : Bool}
theorem mapM_u8 {e : TypeId} (he : P.underlying e = some (.int .u8)) {m : Nat} {cs : List Value} : ∀ (L : List Nat) (xs : List (DataW H × List MemPlace)),
    L.mapM (fun i => DataW.trod enc P W base sp held m e ((cs.drop (i * 1)).take 1)) = some xs → ∀ i ∈ L, ∃ a, (cs.drop i).take 1 = [.int .u8 a] ∧ 0 ≤ a ∧ a ≤ 255
  | [], _, _ => fun _ h => by simp at h
  | i :: L, xs, h => by
    rw [List.mapM_cons] at h
    simp only [bind, Option.bind_eq_some_iff, pure, Option.some.injEq] at h
    obtain ⟨y, hy, ys, hys, rfl⟩ := h
    obtain ⟨a, ea, rfl, wa⟩ := DataW.trod_int he hy
    intro j hj
    rcases List.mem_cons.1 hj with rfl | hj
    · exact ⟨a, by simpa using ea, bounds_u8 wa⟩
    · exact mapM_u8 he L ys hys j hj
/-- An array of bytes that came in. -/
theorem open_bytes {t e : TypeId} {n : Nat} (ht : P.underlying t = some (.array n e)) (he : P.underlying e = some (.int .u8)) (hc : P.cellsOf e = 1) (hct : P.cellsOf t = n) {r : Reach} {b0 : Nat} {v : Value} (hv : Value.okWide P W r b0 t v) {d : DataW H} {ps : List MemPlace}
    (h : DataW.Trod enc P W base sp held t v d ps) : ∃ xs, v = .agg (u8s xs).toArray ∧ xs.length = n ∧ Bytes xs := by
  simp only [Value.okWide, ht] at hv
  obtain ⟨cs, rfl, hsz, _⟩ := hv
  rw [hct] at hsz
  obtain ⟨fuel, hf⟩ := h
  cases fuel with
  | zero => simp [DataW.trod] at hf
  | succ m =>
    rw [DataW.trod_step] at hf
    unfold DataW.trodStep at hf
    simp only [ht, Value.cells, hc] at hf
    rw [if_pos (by rw [hct]; simpa using hsz)] at hf
    simp only [Option.map_eq_some_iff] at hf
    obtain ⟨ys, hy, _⟩ := hf
    have each := mapM_u8 he _ ys hy
    have hat : ∀ i, i < n → ∃ a, cs.toList[i]? = some (.int .u8 a) ∧ 0 ≤ a ∧ a ≤ 255 := fun i hi => by
      obtain ⟨a, ha, hb⟩ := each i (List.mem_range.2 hi)
      refine ⟨a, ?_, hb⟩
      have : ((cs.toList.drop i).take 1)[0]? = some (Value.int .u8 a) := by rw [ha]; rfl
      simpa [List.getElem?_take, List.getElem?_drop] using this
    have hl : cs.toList.length = n := by simpa using hsz
    refine ⟨cs.toList.map intOf, ?_, by simpa using hsz, fun j => ?_⟩
    · congr 1
      apply Array.ext'
      apply List.ext_getElem?
      intro i
      by_cases hi : i < n
      · obtain ⟨a, ha, _⟩ := hat i hi
        simp only [u8s, List.map_map, List.getElem?_map, ha]
        rfl
      · rw [List.getElem?_eq_none (by omega), List.getElem?_eq_none (by simp [u8s]; omega)]
    · rw [List.getD_eq_getElem?_getD, List.getElem?_map]
      by_cases hi : j < n
      · obtain ⟨a, ha, hb⟩ := hat j hi
        rw [ha]
        exact hb
      · rw [List.getElem?_eq_none (by omega)]
        simp
end
set_option maxRecDepth 100000
theorem cells25 : Tryd.prog.cellsOf 25 = 32 := by kernel_rfl
theorem open_hash {H : Type} {enc : TypeId × Value → H} {W : World} {base b0 : Nat} {sp : Nat → Bool} {held : Bool} {r : Reach} {v : Value} {d : DataW H} {p : List MemPlace} (hv : Value.okWide Tryd.prog W r b0 25 v)
    (h : DataW.Trod enc Tryd.prog W base sp held 25 v d p) : ∃ xs, v = hashV xs ∧ xs.length = 32 ∧ Bytes xs :=
  open_bytes Tryd.underlying25 Tryd.underlying5 cells5 cells25 hv h
end Go.Proofs.YtaahffminoekfaaDoor
