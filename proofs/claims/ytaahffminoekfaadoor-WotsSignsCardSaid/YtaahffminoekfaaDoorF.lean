/-
  What the readings of the arguments and of the tables give.
-/
import Derived.Test.YtaahffminoekfaaDoorD
import Derived.Test.YtaahffminoekfaaDoorA10
import Derived.Test.YtaahffminoekfaaDoorCards
import Derived.Test.YtaahffminoekfaaDoorTie
import Derived.Deep.DeepHandedRow
import Derived.Lib.LaidTab
namespace Go.Proofs.YtaahffminoekfaaDoor
open Go.ChangeShapes Go.WideShapes Go.ChangeAt Go.RowKit
theorem cells5 : Tryd.prog.cellsOf 5 = 1 := by kernel_rfl
set_option maxRecDepth 100000 in
theorem open_sl {H : Type} {enc : TypeId × Value → H} {W : World} {base : Nat} {v : Value} {d : DataW H} {p : List MemPlace} (hv : Value.okWide Tryd.prog W .any base 22 v)
    (h : DataW.Trod enc Tryd.prog W 0 (fun _ => true) true 22 v d p) : ∃ xs, SlB W v xs ∧ Bytes xs := by
  obtain ⟨a0, len, cap, rfl⟩ := okWide_slice Tryd.underlying22 hv
  obtain ⟨fuel, hf⟩ := h
  rcases open_ints Tryd.underlying22 Tryd.underlying5 cells5 hf with ⟨hcs, hx⟩ | ⟨a, len', cap', zs, hcs, _, hl, hm, hz, hx, hcell, hwz⟩
  · simp [Value.cells] at hcs
    obtain ⟨rfl, rfl, rfl⟩ := hcs
    exact ⟨[], .inl ⟨rfl, rfl, rfl⟩, fun j => by simp⟩
  · simp [Value.cells] at hcs
    obtain ⟨rfl, rfl, rfl⟩ := hcs
    simp at hz
    have hlen : (zs.take len).length = len := by rw [List.length_take]; omega
    refine ⟨zs.take len, .inr ⟨a, cap, by rw [hlen], by rw [u8s_len]; omega, by rw [hlen]; exact hl, by simpa [maxLen] using hm, fun j u hu => ?_⟩, fun j => ?_⟩
    · have hj : j < (zs.take len).length := by have := (List.getElem?_eq_some_iff.1 hu).1; rwa [u8s_len] at this
      rw [u8s_at hj] at hu
      cases hu
      rw [getD_take _ _ _ (by omega)]
      exact hcell j (by omega)
    · by_cases hj : j < len
      · rw [getD_take _ _ _ hj, List.getD_eq_getElem?_getD, List.getElem?_eq_getElem (show j < zs.length by omega)]
        exact bounds_u8 (hwz _ (List.getElem_mem _))
      · rw [List.getD_eq_getElem?_getD, List.getElem?_eq_none (by omega)]; simp
theorem own : ownKnob Tryd.prog.godebug = none := by kernel_rfl
theorem laidOut : laidOutB Tryd.prog = true := by kernel_rfl
theorem gBeg : Tryd.prog.globalNamed "syngraph/sha.begin" = some 0 := by kernel_rfl
theorem gTab : Tryd.prog.globalNamed "syngraph/sha.table" = some 1 := by kernel_rfl
theorem gBegT : (Tryd.prog.globals[0]?).map (·.type) = some 84 := by kernel_rfl
theorem gTabT : (Tryd.prog.globals[1]?).map (·.type) = some 104 := by kernel_rfl
theorem cells84 : Tryd.prog.cellsOf 84 = 8 := by kernel_rfl
theorem cells104 : Tryd.prog.cellsOf 104 = 64 := by kernel_rfl
theorem cells71 : Tryd.prog.cellsOf 71 = 1 := by kernel_rfl
def beginI : List Int := [1779033703, 3144134277, 1013904242, 2773480762, 1359893119, 2600822924, 528734635, 1541459225]
theorem laid_tail {P : Program} {x : String × DataW Unit} {rest : List (String × DataW Unit)} {W : World} (h : laidMet P (x :: rest) W) : laidMet P rest W := by
  obtain ⟨ps, ⟨g', t', cs, fuel, p, q, hg', ht', hvar, hd, hq, rfl⟩, hn, hall⟩ := h
  exact ⟨q, hq, (List.nodup_append.1 hn).2.1, fun b off hb => hall b off (by simp [hb])⟩
theorem laid_of {W : World} (h : laidMetH Tryd.prog Rows.shaSumsRow.laid W) : Laid W := by
  have h1 : Lib.TabIs Tryd.prog W "syngraph/sha.begin" .u32 beginI := Lib.tabIs_of_head (rest := [("syngraph/sha.table", Rows.laid_syngraph_sha_table)]) gBeg gBegT Tryd.underlying84 Tryd.underlying71 cells71 cells84 h
  have h2 : Lib.TabIs Tryd.prog W "syngraph/sha.table" .u32 tableI := Lib.tabIs_of_head (rest := []) gTab gTabT Tryd.underlying104 Tryd.underlying71 cells71 cells104 (laid_tail h)
  refine ⟨fun j hj => ?_, fun j hj => ?_⟩
  · exact h2.cell gTab j hj
  · rw [h1.cell gBeg j hj]
    match j, hj with
    | 0, _ | 1, _ | 2, _ | 3, _ | 4, _ | 5, _ | 6, _ | 7, _ => rfl
def setRow (zs : List Int) : Obj → Obj
  | .cells _ t frozen => .cells (zs.map (Value.int .u32)).toArray t frozen
  | o => o
/-- A world for the witness: the settled one, the tables holding what their initialisers lay. -/
noncomputable def laidWorld (os : Os) : World :=
  { World.holding Tryd.prog os ⟨#[], #[], []⟩ with heap := ((World.holding Tryd.prog os ⟨#[], #[], []⟩).heap.modify 0 (setRow beginI)).modify 1 (setRow tableI) }
end Go.Proofs.YtaahffminoekfaaDoor
