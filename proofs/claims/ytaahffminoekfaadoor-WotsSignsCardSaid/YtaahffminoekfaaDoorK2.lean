import Derived.Test.YtaahffminoekfaaDoorA10
namespace Go.Proofs.YtaahffminoekfaaDoor
def leafTextI : List Int := [54,101,51,52,48,98,57,99,102,102,98,51,55,97,57,56,57,99,97,53,52,52,101,54,98,98,55,56,48,97,50,99,55,56,57,48,49,100,51,102,98,51,51,55,51,56,55,54,56,53,49,49,97,51,48,54,49,55,97,102,97,48,49,100]
theorem leaf_text : showI (shaI [0]) = leafTextI := by
  decide +kernel
theorem leaf_list : ((strOfNums leafTextI).toList == [54,101,51,52,48,98,57,99,102,102,98,51,55,97,57,56,57,99,97,53,52,52,101,54,98,98,55,56,48,97,50,99,55,56,57,48,49,100,51,102,98,51,51,55,51,56,55,54,56,53,49,49,97,51,48,54,49,55,97,102,97,48,49,100]) = true := by decide +kernel
theorem shaI_bytes (l : List Int) : Bytes (shaI l) := by
  intro j
  unfold shaI hashL
  rw [List.getD_eq_getElem?_getD, List.getElem?_map]
  cases h : (List.range 32)[j]? with
  | none => simp
  | some i =>
    simp only [Option.map_some, Option.getD_some]
    unfold byteOf
    split <;> omega
end Go.Proofs.YtaahffminoekfaaDoor
