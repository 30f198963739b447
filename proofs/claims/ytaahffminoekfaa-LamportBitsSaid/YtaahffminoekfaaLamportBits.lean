/- Any hash has the bits that the document says: the law 'LamportBits' returns true for every hash, and leaves it as it was. -/
import Derived.Test.YtaahffminoekfaaX4
import Derived.Test.YtaahffminoekfaaRows
import Derived.Test.YtaahffminoekfaaD
import Derived.Deep.DeepHandedRow
import Derived.Lib.LaidTab
namespace Go.Proofs.Ytaahffminoekfaa.lamportBits
open Go.ChangeShapes Go.WideShapes Go.ChangeAt Go.RowKit
set_option maxRecDepth 100000
theorem own : ownKnob Try.prog.godebug = none := by kernel_rfl
theorem laidOut : laidOutB Try.prog = true := by kernel_rfl
theorem cells5 : Try.prog.cellsOf 5 = 1 := by kernel_rfl
theorem cells23 : Try.prog.cellsOf 23 = 32 := by kernel_rfl
def Bytes (l : List Int) : Prop := ∀ j, 0 ≤ l.getD j 0 ∧ l.getD j 0 ≤ 255
section
variable {H : Type} {enc : TypeId × Value → H} {P : Program} {W : World} {base : Nat} {sp : Nat → Bool} {held : Bool}
theorem mapM_u8 {e : TypeId} (he : P.underlying e = some (.int .u8)) {m : Nat} {cs : List Value} : ∀ (L : List Nat) (xs : List (DataW H × List MemPlace)),
    L.mapM (fun i => DataW.trod enc P W base sp held m e ((cs.drop (i * 1)).take 1)) = some xs → ∀ i ∈ L, ∃ a, (cs.drop i).take 1 = [.int .u8 a] ∧ 0 ≤ a ∧ a ≤ 255
  | [], _, _ => fun _ h => by simp at h
  | i :: L, xs, h => by
    rw [List.mapM_cons] at h
    simp only [bind, Option.bind_eq_some_iff, pure, Option.some.injEq] at h
    obtain ⟨y, hy, ys, hys, rfl⟩ := h
    obtain ⟨a, ea, rfl, wa⟩ := DataW.trod_int he hy
    intro j hj
    rcases List.mem_cons.1 hj with rfl | hj
    · exact ⟨a, by simpa using ea, bounds_u8 wa⟩
    · exact mapM_u8 he L ys hys j hj
/-- An array of bytes that came in. -/
theorem open_bytes {t e : TypeId} {n : Nat} (ht : P.underlying t = some (.array n e)) (he : P.underlying e = some (.int .u8)) (hc : P.cellsOf e = 1) (hct : P.cellsOf t = n) {r : Reach} {b0 : Nat} {v : Value} (hv : Value.okWide P W r b0 t v) {d : DataW H} {ps : List MemPlace}
    (h : DataW.Trod enc P W base sp held t v d ps) : ∃ xs, v = .agg (u8s xs).toArray ∧ xs.length = n ∧ Bytes xs := by
  simp only [Value.okWide, ht] at hv
  obtain ⟨cs, rfl, hsz, _⟩ := hv
  rw [hct] at hsz
  obtain ⟨fuel, hf⟩ := h
  cases fuel with
  | zero => simp [DataW.trod] at hf
  | succ m =>
    rw [DataW.trod_step] at hf
    unfold DataW.trodStep at hf
    simp only [ht, Value.cells, hc] at hf
    rw [if_pos (by rw [hct]; simpa using hsz)] at hf
    simp only [Option.map_eq_some_iff] at hf
    obtain ⟨ys, hy, _⟩ := hf
    have each := mapM_u8 he _ ys hy
    have hat : ∀ i, i < n → ∃ a, cs.toList[i]? = some (.int .u8 a) ∧ 0 ≤ a ∧ a ≤ 255 := fun i hi => by
      obtain ⟨a, ha, hb⟩ := each i (List.mem_range.2 hi)
      refine ⟨a, ?_, hb⟩
      have : ((cs.toList.drop i).take 1)[0]? = some (Value.int .u8 a) := by rw [ha]; rfl
      simpa [List.getElem?_take, List.getElem?_drop] using this
    have hl : cs.toList.length = n := by simpa using hsz
    refine ⟨cs.toList.map intOf, ?_, by simpa using hsz, fun j => ?_⟩
    · congr 1
      apply Array.ext'
      apply List.ext_getElem?
      intro i
      by_cases hi : i < n
      · obtain ⟨a, ha, _⟩ := hat i hi
        simp only [u8s, List.map_map, List.getElem?_map, ha]
        rfl
      · rw [List.getElem?_eq_none (by omega), List.getElem?_eq_none (by simp [u8s]; omega)]
    · rw [List.getD_eq_getElem?_getD, List.getElem?_map]
      by_cases hi : j < n
      · obtain ⟨a, ha, hb⟩ := hat j hi
        rw [ha]
        exact hb
      · rw [List.getElem?_eq_none (by omega)]
        simp
end
theorem contract (H : Type) (enc : TypeId × Value → H) (W : World) (base : Nat) (args : Array Value) (ds gs : List (DataW H)) (before : List MemPlace)
    (hval : ∀ (j : Nat) t v, Try.f3.params[j]? = some t → args[j]? = some v → Value.okWide Try.prog W .any base t v)
    (hW : DataW.Whole enc Try.prog Try.f3.params.toList Rows.lamportBitsSpec.vars false W args.toList ds gs before) (hL : laidMetH Try.prog Rows.lamportBitsRow.laid W) :
    Calls Try.prog 3 args W fun e W' => ∃ v, e = .returned v ∧ Rows.lamportBitsSpec.post enc Try.prog Try.f3 false true false false W args v W' := by
  have hW' := hW
  obtain ⟨p, q, hA, hV, rfl, hfz, hnd⟩ := hW
  rw [Try.params3] at hA hval
  obtain ⟨v0, vs0, d0, ds0, p0, q0, hargs, rfl, rfl, g0, r0⟩ := trodAll_cons hA
  obtain ⟨rfl, rfl, rfl⟩ := trodAll_nil r0
  obtain rfl : args = #[v0] := by cases args; simp_all
  obtain ⟨rfl, rfl⟩ := trodVars_none hV
  obtain ⟨x0, rfl, l0, k0⟩ := open_bytes Try.underlying23 Try.underlying5 cells5 cells23 (hval 0 23 v0 rfl rfl) g0
  refine (lamportBits_any x0 W l0 k0).mono fun e W' ⟨he, hg⟩ => ?_
  exact ⟨_, he, post_true 4 Try.underlying4 laidOut hW' rfl (by kernel_rfl) rfl (by decide +kernel) hg⟩
noncomputable def plainWorld (os : Os) : World := World.holding Try.prog os ⟨#[], #[], []⟩
theorem laid_met (os : Os) : laidMet Try.prog Rows.lamportBitsRow.laid ((plainWorld os).forCall (fun _ _ => 0) ⟨#[], #[.agg (Array.replicate 32 (.int .u8 0))], []⟩).memory :=
  laidMet_of_run' 8 (by kernel_rfl) (by kernel_rfl)
theorem reads (os : Os) {H : Type} (enc : TypeId × Value → H) : ∃ places, DataW.whole enc Try.prog ((plainWorld os).forCall (fun _ _ => 0) ⟨#[], #[.agg (Array.replicate 32 (.int .u8 0))], []⟩).memory Try.f3.params.toList Rows.lamportBitsSpec.vars false #[(.agg (Array.replicate 32 (.int .u8 0)) : Value)].toList 8 = some ([.agg (List.replicate 32 (.lit (.int .u8 0)))], [], places) :=
  ⟨[], by kernel_rfl⟩
theorem lifted (os : Os) (started : os.Started) (H : Type) (enc : TypeId × Value → H) (F : Stop.Interp) :
    ReturnsInHanded {} Try.checked os 3 .any ((OpenSpec.ofChange Rows.lamportBitsSpec).preRow enc Try.prog Try.f3 Rows.lamportBitsRow.domain false Rows.lamportBitsRow.laid) (((OpenSpec.ofChange Rows.lamportBitsSpec).at F).post enc Try.prog Try.f3 false true false false) := by
  obtain ⟨places, hx⟩ := reads os enc
  refine returnsInHanded_of_row (C := Try.checked) (s := OpenSpec.ofChange Rows.lamportBitsSpec) own started (by kernel_rfl) Try.func3
    (witness_row_at (enc := enc) (C := Try.checked) false (plainWorld os) #[.agg (Array.replicate 32 (.int .u8 0))] rfl (by kernel_rfl) (by kernel_rfl) (by kernel_rfl)
      (OpenSpec.preRow_of_cond 8 hx (by kernel_rfl) (fun k hk => by cases hk) (by kernel_rfl) (laid_met os))) ?_
  intro W base args ds gs before hval hW _ _ _ hL _ _
  exact contract H enc W base args ds gs before hval hW hL
theorem said : Rows.LamportBitsSaid :=
  OpenClaim.holds_of_cond 3 Try.f3 rfl rfl rfl rfl rfl rfl rfl ⟨rfl, rfl, rfl, rfl, rfl⟩ rfl rfl rfl rfl rfl (by kernel_rfl) Try.func3 (by kernel_rfl)
    (of_decide_eq_true (by kernel_rfl)) (by unfold Func.isWrapper; first | (rw [if_pos (by decide +kernel)]; kernel_rfl) | (rw [if_neg (by decide +kernel)]; exact ⟨rfl, rfl⟩))
    (fun os started H enc _ F => by rw [OpenClaim.pre_eq_preRow]; exact lifted os started H enc F)
end Go.Proofs.Ytaahffminoekfaa.lamportBits
