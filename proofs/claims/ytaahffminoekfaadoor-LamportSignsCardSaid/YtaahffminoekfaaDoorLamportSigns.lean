/- Any hash is signed with any key of layer 5 by what the document says, bit by bit, and the signature leads to the public key: the law LamportSigns returns true for every seed, key and hash, and leaves them as they were; its two tables as the text of the program lays them. -/
import Derived.Test.YtaahffminoekfaaDoorZ8
import Derived.Test.YtaahffminoekfaaDoorR1
import Derived.Test.YtaahffminoekfaaDoorG
namespace Go.Proofs.YtaahffminoekfaaDoor.lamportSigns
open Go.ChangeShapes Go.WideShapes Go.ChangeAt Go.RowKit
set_option maxRecDepth 100000
theorem contract (H : Type) (enc : TypeId × Value → H) (W : World) (base : Nat) (args : Array Value) (ds gs : List (DataW H)) (before : List MemPlace)
    (hval : ∀ (j : Nat) t v, Tryd.f19.params[j]? = some t → args[j]? = some v → Value.okWide Tryd.prog W .any base t v)
    (hW : DataW.Whole enc Tryd.prog Tryd.f19.params.toList Rows.lamportSignsSpec.vars false W args.toList ds gs before) (hL : laidMetH Tryd.prog Rows.lamportSignsRow.laid W) :
    Calls Tryd.prog 19 args W fun e W' => ∃ v, e = .returned v ∧ Rows.lamportSignsSpec.post enc Tryd.prog Tryd.f19 false true false false W args v W' := by
  have hW' := hW
  obtain ⟨p, q, hA, hV, rfl, hfz, hnd⟩ := hW
  rw [Tryd.params19] at hA hval
  obtain ⟨v0, vs0, d0, ds0, p0, q0, hargs, rfl, rfl, g0, r0⟩ := trodAll_cons hA
  obtain ⟨v1, vs1, d1, ds1, p1, q1, rfl, rfl, rfl, g1, r1⟩ := trodAll_cons r0
  obtain ⟨v2, vs2, d2, ds2, p2, q2, rfl, rfl, rfl, g2, r2⟩ := trodAll_cons r1
  obtain ⟨rfl, rfl, rfl⟩ := trodAll_nil r2
  obtain rfl : args = #[v0, v1, v2] := by cases args; simp_all
  obtain ⟨rfl, rfl⟩ := trodVars_none hV
  obtain ⟨x0, rfl, l0, k0⟩ := open_hash (hval 0 25 v0 rfl rfl) g0
  obtain ⟨x1, rfl, k1⟩ := open_i64 (hval 1 3 v1 rfl rfl) g1
  obtain ⟨x2, rfl, l2, k2⟩ := open_hash (hval 2 25 v2 rfl rfl) g2
  have LA := laid_of hL
  refine (lamportSigns_any x0 x1 x2 W l0 k0 k1 l2 k2 LA).mono fun e W' ⟨he, hg⟩ => ?_
  exact ⟨_, he, post_true 4 Tryd.underlying4 laidOut hW' rfl (by kernel_rfl) rfl (by decide +kernel) hg⟩
theorem laid_met (os : Os) : laidMet Tryd.prog Rows.lamportSignsRow.laid ((laidWorld os).forCall (fun _ _ => 0) ⟨#[], #[.agg (Array.replicate 32 (.int .u8 0)), .int .i64 0, .agg (Array.replicate 32 (.int .u8 0))], []⟩).memory :=
  laidMet_of_run' 8 (by kernel_rfl) (by kernel_rfl)
theorem reads (os : Os) {H : Type} (enc : TypeId × Value → H) : ∃ places, DataW.whole enc Tryd.prog ((laidWorld os).forCall (fun _ _ => 0) ⟨#[], #[.agg (Array.replicate 32 (.int .u8 0)), .int .i64 0, .agg (Array.replicate 32 (.int .u8 0))], []⟩).memory Tryd.f19.params.toList Rows.lamportSignsSpec.vars false #[(.agg (Array.replicate 32 (.int .u8 0)) : Value), .int .i64 0, .agg (Array.replicate 32 (.int .u8 0))].toList 8 = some ([.agg (List.replicate 32 (.lit (.int .u8 0))), .lit (.int .i64 0), .agg (List.replicate 32 (.lit (.int .u8 0)))], [], places) :=
  ⟨[], by kernel_rfl⟩
theorem lifted (os : Os) (started : os.Started) (H : Type) (enc : TypeId × Value → H) (F : Stop.Interp) :
    ReturnsInHanded {} Tryd.checked os 19 .any ((OpenSpec.ofChange Rows.lamportSignsSpec).preRow enc Tryd.prog Tryd.f19 Rows.lamportSignsRow.domain false Rows.lamportSignsRow.laid) (((OpenSpec.ofChange Rows.lamportSignsSpec).at F).post enc Tryd.prog Tryd.f19 false true false false) := by
  obtain ⟨places, hx⟩ := reads os enc
  refine returnsInHanded_of_row (C := Tryd.checked) (s := OpenSpec.ofChange Rows.lamportSignsSpec) own started (by kernel_rfl) Tryd.func19
    (witness_row_at (enc := enc) (C := Tryd.checked) false (laidWorld os) #[.agg (Array.replicate 32 (.int .u8 0)), .int .i64 0, .agg (Array.replicate 32 (.int .u8 0))] rfl (by kernel_rfl) (by kernel_rfl) (by kernel_rfl)
      (OpenSpec.preRow_of_cond 8 hx (by kernel_rfl) (fun k hk => by cases hk) (by kernel_rfl) (laid_met os))) ?_
  intro W base args ds gs before hval hW _ _ _ hL _ _
  exact contract H enc W base args ds gs before hval hW hL
theorem said : Rows.LamportSignsSaid :=
  OpenClaim.holds_of_cond 19 Tryd.f19 rfl rfl rfl rfl rfl rfl rfl ⟨rfl, rfl, rfl, rfl, rfl⟩ rfl rfl rfl rfl rfl (by kernel_rfl) Tryd.func19 (by kernel_rfl)
    (of_decide_eq_true (by kernel_rfl)) (by unfold Func.isWrapper; first | (rw [if_pos (by decide +kernel)]; kernel_rfl) | (rw [if_neg (by decide +kernel)]; exact ⟨rfl, rfl⟩))
    (fun os started H enc _ F => by rw [OpenClaim.pre_eq_preRow]; exact lifted os started H enc F)
theorem plain (f : FuncId) (fn : Func) (hf : Tryd.pinned.checked.prog.funcNamed "syngraph/syngraphlaw05.LamportSigns" = some f) (hfn : Tryd.pinned.checked.prog.funcs[f]? = some fn) :
    false = Tryd.pinned.checked.prog.looks [] ∧ ∀ (j : Nat) t, fn.params[j]? = some t → Tryd.pinned.checked.prog.wantsStandIn t = false := by
  obtain rfl : f = 19 := Option.some.inj ((show Tryd.prog.funcNamed "syngraph/syngraphlaw05.LamportSigns" = some 19 by kernel_rfl).symm.trans hf) |>.symm
  obtain rfl : fn = Tryd.f19 := (Option.some.inj (Tryd.func19.symm.trans hfn)).symm
  refine ⟨by kernel_rfl, fun j t ht => ?_⟩
  rw [Tryd.params19] at ht
  have hall : ∀ t ∈ #[25, 3, 25], Tryd.prog.wantsStandIn t = false := by decide +kernel
  exact hall t (Array.mem_of_getElem? ht)
theorem card : Rows.LamportSignsCardSaid :=
  Claim7.holds_tied_plain_at .later [] _ _ _ _ said (fun _ h => by cases h) (by kernel_rfl) (fun _ h => by cases h) lamportSigns_row_tie rfl ⟨rfl, rfl⟩ (by kernel_rfl) rfl plain (by kernel_rfl)
end Go.Proofs.YtaahffminoekfaaDoor.lamportSigns
