/-
    
-/
import Derived.Test.YtaahffminoekfaaDoorA9
import Derived.Lib.SlBytesConst
namespace Go.Proofs.YtaahffminoekfaaDoor
def abcI : List Int := [98,97,55,56,49,54,98,102,56,102,48,49,99,102,101,97,52,49,52,49,52,48,100,101,53,100,97,101,50,50,50,51,98,48,48,51,54,49,97,51,57,54,49,55,55,97,57,99,98,52,49,48,102,102,54,49,102,50,48,48,49,53,97,100]
theorem abc_text : showI (shaI [97, 98, 99]) = abcI := by
  decide +kernel
theorem abc_list : ((strOfNums abcI).toList == [98,97,55,56,49,54,98,102,56,102,48,49,99,102,101,97,52,49,52,49,52,48,100,101,53,100,97,101,50,50,50,51,98,48,48,51,54,49,97,51,57,54,49,55,55,97,57,99,98,52,49,48,102,102,54,49,102,50,48,48,49,53,97,100]) = true := by decide +kernel
end Go.Proofs.YtaahffminoekfaaDoor
namespace Go.Proofs.YtaahffminoekfaaDoor
open Go.RowKit
def TruePost (w : World) (e : Ending) (w' : World) : Prop := e = .returned (.bool true) ∧ Below w.heap.size w w'
set_option maxRecDepth 100000 in
theorem awake_any (w : World) (hla : Laid w) : Calls Tryd.prog 21 #[] w (TruePost w) := by
  have HLA := Lib.hid hla
  clear hla
  obtain ⟨W1, hW1⟩ : ∃ W1, W1 = w.alloc (.cells #[.int .u8 97, .int .u8 98, .int .u8 99] 5 (3, 4)) := ⟨_, rfl⟩
  have c1 : Chg (fun _ => False) w W1 := by rw [hW1]; exact (Chg.refl _ w).alloc _
  have hr1 : W1.heap[w.heap.size]? = some (.cells #[.int .u8 97, .int .u8 98, .int .u8 99] 5 (3, 4)) := by rw [hW1, heap_alloc_last]
  have hsl : SlB W1 (.slice (some ⟨w.heap.size, 0, none⟩) 3 3) [97, 98, 99] := SlB.mk rfl (by omega) (by omega) (fun j hj => by
    rw [cell_of_row _ _ _ _ _ _ hr1]
    match j, hj with
    | 0, _ | 1, _ | 2, _ => rfl
    | j + 3, h => simp at h; omega)
  have hby : Bytes [97, 98, 99] := fun j => by
    match j with
    | 0 | 1 | 2 => decide
    | j + 3 => simp
  have hs := shaSum_any [97, 98, 99] _ W1 hsl hby (by simp) (HLA.out.chg c1 (fun h => h) (fun h => h))
  have HS := Lib.hid hs
  have HC := Lib.hid c1
  have HW := Lib.hid hW1
  clear hs c1 hsl hr1 hby hW1
  have kc := fun (w : World) (C : Array Value) (n c : Nat) => Lib.run_convert_bytes_const (P := Tryd.prog) w 22 5 C n c Tryd.underlying22 Tryd.underlying5
  go_enter Tryd.func21, Tryd.ntmps21
  go_wp2_with fail
  rw [← HW.out]
  clear kc
  refine HS.out.mono ?_
  rintro e W2 ⟨rfl, b2⟩
  have hbs : Bytes (shaI [97, 98, 99]) := by
    intro j
    unfold shaI hashL
    rw [List.getD_eq_getElem?_getD, List.getElem?_map]
    cases h : (List.range 32)[j]? with
    | none => simp
    | some i =>
      simp only [Option.map_some, Option.getD_some]
      unfold byteOf
      split <;> omega
  have hsh := show_any (shaI [97, 98, 99]) W2 (hash_size _) hbs
  have HSH := Lib.hid hsh
  have HB2 := Lib.hid b2
  clear hsh b2 hbs
  go_wp2_with fail
  refine HSH.out.mono ?_
  rintro e W3 ⟨rfl, b3⟩
  rw [abc_text]
  have HB3 := Lib.hid b3
  have hq := abc_list
  clear b3
  go_wp2
  go_ret
  refine ⟨?_, ?_⟩
  · rfl
  · exact ((HC.out.trans (Chg.of_below HB2.out _)).trans (Chg.of_below HB3.out _)).below_none (fun _ _ h => h)
end Go.Proofs.YtaahffminoekfaaDoor
namespace Go.Proofs.YtaahffminoekfaaDoor
def leafTextI : List Int := [54,101,51,52,48,98,57,99,102,102,98,51,55,97,57,56,57,99,97,53,52,52,101,54,98,98,55,56,48,97,50,99,55,56,57,48,49,100,51,102,98,51,51,55,51,56,55,54,56,53,49,49,97,51,48,54,49,55,97,102,97,48,49,100]
theorem leaf_text : showI (shaI [0]) = leafTextI := by
  decide +kernel
theorem leaf_list : ((strOfNums leafTextI).toList == [54,101,51,52,48,98,57,99,102,102,98,51,55,97,57,56,57,99,97,53,52,52,101,54,98,98,55,56,48,97,50,99,55,56,57,48,49,100,51,102,98,51,51,55,51,56,55,54,56,53,49,49,97,51,48,54,49,55,97,102,97,48,49,100]) = true := by decide +kernel
theorem shaI_bytes (l : List Int) : Bytes (shaI l) := by
  intro j
  unfold shaI hashL
  rw [List.getD_eq_getElem?_getD, List.getElem?_map]
  cases h : (List.range 32)[j]? with
  | none => simp
  | some i =>
    simp only [Option.map_some, Option.getD_some]
    unfold byteOf
    split <;> omega
end Go.Proofs.YtaahffminoekfaaDoor
