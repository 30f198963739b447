/- A copy tells the same, and goes on by itself: the law 'DiskCopies' returns true for every input, and leaves it as it was. -/
import Derived.Test.YtkndnlhlglgmfaaRows
import Derived.Test.YtkndnlhlglgmfaaD
import Derived.Test.YtkndnlhlglgmfaaR
import Derived.Test.YtkndnlhlglgmfaaE32
namespace Go.Proofs.Ytkndnlhlglgmfaa.diskCopies
open Go.ChangeShapes Go.WideShapes Go.ChangeAt Go.RowKit
set_option maxRecDepth 100000
theorem contract (H : Type) (enc : TypeId × Value → H) (W : World) (base : Nat) (args : Array Value) (ds gs : List (DataW H)) (before : List MemPlace)
    (hval : ∀ (j : Nat) t v, Try.f9.params[j]? = some t → args[j]? = some v → Value.okWide Try.prog W .any base t v)
    (hW : DataW.Whole enc Try.prog Try.f9.params.toList Rows.diskCopiesSpec.vars false W args.toList ds gs before) (hL : laidMetH Try.prog Rows.diskCopiesRow.laid W) :
    Calls Try.prog 9 args W fun e W' => ∃ v, e = .returned v ∧ Rows.diskCopiesSpec.post enc Try.prog Try.f9 false true false false W args v W' := by
  have hW' := hW
  obtain ⟨p, q, hA, hV, rfl, hfz, hnd⟩ := hW
  rw [Try.params9] at hA hval
  obtain ⟨v0, vs0, d0, ds0, p0, q0, hargs, rfl, rfl, g0, r0⟩ := trodAll_cons hA
  obtain ⟨v1, vs1, d1, ds1, p1, q1, rfl, rfl, rfl, g1, r1⟩ := trodAll_cons r0
  obtain ⟨rfl, rfl, rfl⟩ := trodAll_nil r1
  obtain rfl : args = #[v0, v1] := by cases args; simp_all
  obtain ⟨rfl, rfl⟩ := trodVars_none hV
  obtain ⟨os0, ds0, h0, k0⟩ := open_ops (hval 0 22 v0 rfl rfl) g0
  obtain ⟨os1, ds1, h1, k1⟩ := open_ops (hval 1 22 v1 rfl rfl) g1
  refine (diskCopies_any W v0 os0 ds0 h0 k0 v1 os1 ds1 h1 k1).mono fun e W' ⟨he, hg⟩ => ?_
  exact ⟨_, he, post_true 4 Try.underlying4 laidOut hW' rfl (by kernel_rfl) rfl (by decide +kernel) hg⟩
theorem laid_met (os : Os) : laidMet Try.prog Rows.diskCopiesRow.laid ((plainWorld os).forCall (fun _ _ => 0) ⟨#[], #[.slice none 0 0, .slice none 0 0], []⟩).memory :=
  laidMet_of_run' 8 (by kernel_rfl) (by kernel_rfl)
theorem reads (os : Os) {H : Type} (enc : TypeId × Value → H) : ∃ places, DataW.whole enc Try.prog ((plainWorld os).forCall (fun _ _ => 0) ⟨#[], #[.slice none 0 0, .slice none 0 0], []⟩).memory Try.f9.params.toList Rows.diskCopiesSpec.vars false #[(.slice none 0 0 : Value), .slice none 0 0].toList 8 = some ([.nil, .nil], [], places) :=
  ⟨[], by kernel_rfl⟩
theorem lifted (os : Os) (started : os.Started) (H : Type) (enc : TypeId × Value → H) (F : Stop.Interp) :
    ReturnsInHanded {} Try.checked os 9 .any ((OpenSpec.ofChange Rows.diskCopiesSpec).preRow enc Try.prog Try.f9 Rows.diskCopiesRow.domain false Rows.diskCopiesRow.laid) (((OpenSpec.ofChange Rows.diskCopiesSpec).at F).post enc Try.prog Try.f9 false true false false) := by
  obtain ⟨places, hx⟩ := reads os enc
  refine returnsInHanded_of_row (C := Try.checked) (s := OpenSpec.ofChange Rows.diskCopiesSpec) own started (by kernel_rfl) Try.func9
    (witness_row_at (enc := enc) (C := Try.checked) false (plainWorld os) #[.slice none 0 0, .slice none 0 0] rfl (by kernel_rfl) (by kernel_rfl) (by kernel_rfl)
      (OpenSpec.preRow_of_cond 8 hx (by kernel_rfl) (fun k hk => by cases hk) (by kernel_rfl) (laid_met os))) ?_
  intro W base args ds gs before hval hW _ _ _ hL _ _
  exact contract H enc W base args ds gs before hval hW hL
theorem said : Rows.DiskCopiesSaid :=
  OpenClaim.holds_of_cond 9 Try.f9 rfl rfl rfl rfl rfl rfl rfl ⟨rfl, rfl, rfl, rfl, rfl⟩ rfl rfl rfl rfl rfl (by kernel_rfl) Try.func9 (by kernel_rfl)
    (of_decide_eq_true (by kernel_rfl)) (by unfold Func.isWrapper; first | (rw [if_pos (by decide +kernel)]; kernel_rfl) | (rw [if_neg (by decide +kernel)]; exact ⟨rfl, rfl⟩))
    (fun os started H enc _ F => by rw [OpenClaim.pre_eq_preRow]; exact lifted os started H enc F)
end Go.Proofs.Ytkndnlhlglgmfaa.diskCopies
