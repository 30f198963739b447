/-
  A map from numbers to slices of bytes, as it lies in memory.
-/
import Derived.Test.YtkndnlhlglgmfaaA3
import Derived.Maps.OwnSet
import Derived.Maps.RangeWalk
import Derived.Maps.Views
namespace Go.Proofs.Ytkndnlhlglgmfaa
open Go.RowKit Go.WideElems Go.MapKept Go.ChangeMaps
def I64 (n : Int) : Prop := -9223372036854775808 ≤ n ∧ n ≤ 9223372036854775807
/-- An element reads as itself. -/
def RV (v : Value) : Option (DataW Value × List MemPlace) := some (.held v, [])
theorem K3 : Maps.Keyed Try.prog 3 := Maps.int_keyed Try.underlying3
theorem wf_i64 {i : Int} (h : I64 i) : (Lit.int .i64 i).wf = true := by
  obtain ⟨h1, h2⟩ := h
  have e1 : IntKind.i64.min = -9223372036854775808 := by decide
  have e2 : IntKind.i64.max = 9223372036854775807 := by decide
  simp only [Lit.wf, e1, e2, Bool.and_eq_true, decide_eq_true_eq]
  exact ⟨h1, h2⟩
theorem key_mk {i : Int} (h : I64 i) : keyOf Try.prog 3 (.int .i64 i) = some (.int .i64 i) := Maps.keyOf_int_mk Try.underlying3 (wf_i64 h)
theorem zero28 (w : World) : (zeroValue 28).run Try.prog w = .ok (.slice none 0 0) w := by
  obtain ⟨i, hi, hz⟩ := Option.map_eq_some_iff.1 (show (Try.prog.info? 28).map (fun i => i.zero) = some (some (.slice none 0 0)) by kernel_rfl)
  simp [zeroValue, typeInfo, hi, hz]
/-- What an abstract entry reads as. -/
def asHeld (c : Option Value) (z : DataW Value) : DataW Value := match c with | some v => .held v | none => z
/-- Block b is a map of at most m entries: C i is what is at i. -/
def CacheAt (w : World) (b m : Nat) (C : Int → Option Value) : Prop := ∃ D : DataW Value, w.ownsMap Try.prog 3 RV b m D ∧ ∀ i, I64 i → Maps.has D (.int .i64 i) = (C i).isSome ∧ ∀ z, D.atKey (.int .i64 i) z = asHeld (C i) z
def upd (C : Int → Option Value) (i : Int) (c : Option Value) : Int → Option Value := fun j => if j = i then c else C j
theorem CacheAt.block {w : World} {b m : Nat} {C : Int → Option Value} (h : CacheAt w b m C) : ∃ es clock, w.heap[b]? = some (.map es clock) := by
  obtain ⟨D, ⟨es, clock, hb, _⟩, _⟩ := h
  exact ⟨es, clock, hb⟩
theorem CacheAt.chg {S : Nat → Prop} {w w' : World} {b m : Nat} {C : Int → Option Value} (h : CacheAt w b m C) (hc : Chg S w w') (hS : ¬ S b) : CacheAt w' b m C := by
  obtain ⟨D, ⟨es, clock, hb, hr⟩, hv⟩ := h
  exact ⟨D, ⟨es, clock, hc.heap hb hS, hr⟩, hv⟩
theorem CacheAt.mono {w : World} {b m m' : Nat} {C : Int → Option Value} (h : CacheAt w b m C) (hm : m ≤ m') : CacheAt w b m' C := by
  obtain ⟨D, h1, h2⟩ := h
  exact ⟨D, h1.mono hm, h2⟩
theorem cache_new (w : World) : CacheAt (w.alloc (.map #[] 0)) w.heap.size 0 (fun _ => none) :=
  ⟨.map [], World.ownsMap_made w Try.prog 3 RV, fun i _ => ⟨rfl, fun z => rfl⟩⟩
theorem turned_chg {w w' : World} {b : Nat} (h : w.mapTurned w' b) : Chg (fun k => k = b) w w' := (Chg.of_grownBy h.grown).mono (fun i _ hi => by injection hi)
theorem cache_look {w : World} {b m : Nat} {C : Int → Option Value} (h : CacheAt w b m C) {i : Int} (hi : I64 i) :
    (Instr.lookup 79 (.map (some b)) (.int .i64 i) true).run Try.prog w = .ok (.tuple #[(C i).getD (.slice none 0 0), .bool (C i).isSome]) w := by
  obtain ⟨D, hD, hv⟩ := h
  obtain ⟨v, ps, hrun, hr⟩ := hD.look_ok K3 Try.underlying79 (zero28 w) (show RV (.slice none 0 0) = some (.held (.slice none 0 0), []) from rfl) (key_mk hi)
  rw [(hv i hi).1] at hrun
  rw [(hv i hi).2] at hr
  have : v = (C i).getD (.slice none 0 0) := by
    unfold RV at hr
    simp only [Option.some.injEq, Prod.mk.injEq] at hr
    cases hc : C i with
    | none => rw [hc] at hr; simp only [asHeld] at hr; exact (DataW.held.inj hr.1)
    | some u => rw [hc] at hr; simp only [asHeld] at hr; exact (DataW.held.inj hr.1)
  rw [this] at hrun
  exact hrun
theorem cache_store {w : World} {b m : Nat} {C : Int → Option Value} (h : CacheAt w b m C) (hm : m ≤ 1000000) {i : Int} (hi : I64 i) (v : Value) :
    ∃ w', (Instr.mapUpdate 79 (.map (some b)) (.int .i64 i) v).run Try.prog w = .ok () w' ∧ CacheAt w' b (m + 1) (upd C i (some v)) ∧ Chg (fun k => k = b) w w' := by
  obtain ⟨D, hD, hv⟩ := h
  obtain ⟨w', hrun, h1, h2⟩ := hD.store K3 Try.underlying79 (by unfold maxLen; omega) (key_mk hi) (show RV v = some (.held v, []) from rfl)
  refine ⟨w', hrun, ⟨_, h1, fun j hj => ?_⟩, turned_chg h2⟩
  have hm := hD.isMap
  have hk : WideAt.IsKeyLit (.int .i64 i) := by first | exact trivial | exact ⟨_, _, rfl⟩ | simp [WideAt.IsKeyLit]
  unfold upd
  by_cases hji : j = i
  · subst hji
    rw [if_pos rfl]
    exact ⟨Maps.has_put_same hm hk _, fun z => Maps.atKey_put_same hm hk _ z⟩
  · rw [if_neg hji]
    have hne : (Lit.int .i64 j) ≠ .int .i64 i := fun e => hji (by injection e)
    rw [Maps.has_put_other hne]
    exact ⟨(hv j hj).1, fun z => by rw [Maps.atKey_put_other hne]; exact (hv j hj).2 z⟩
theorem cache_drop {w : World} {b m : Nat} {C : Int → Option Value} (h : CacheAt w b m C) {i : Int} (hi : I64 i) (ty : TypeId) :
    ∃ w', (Builtin.delete_ #[79, 3] ty #[.map (some b), .int .i64 i]).run Try.prog w = .ok (.tuple #[]) w' ∧ CacheAt w' b m (upd C i none) ∧ Chg (fun k => k = b) w w' := by
  obtain ⟨D, hD, hv⟩ := h
  obtain ⟨w', hrun, h1, h2⟩ := hD.drop K3 Try.underlying79 (key_mk hi) ty
  refine ⟨w', hrun, ⟨_, h1, fun j hj => ?_⟩, turned_chg h2⟩
  unfold upd
  by_cases hji : j = i
  · subst hji
    rw [if_pos rfl]
    exact ⟨Maps.has_del_same, fun z => Maps.atKey_del_same z⟩
  · rw [if_neg hji]
    have hne : (Lit.int .i64 j) ≠ .int .i64 i := fun e => hji (by injection e)
    rw [Maps.has_del_other hne]
    exact ⟨(hv j hj).1, fun z => by rw [Maps.atKey_del_other hne]; exact (hv j hj).2 z⟩
theorem cache_clear {w : World} {b m : Nat} {C : Int → Option Value} (h : CacheAt w b m C) (ty : TypeId) :
    ∃ w', (Builtin.clear_ #[79] ty #[.map (some b)]).run Try.prog w = .ok (.tuple #[]) w' ∧ CacheAt w' b 0 (fun _ => none) ∧ Chg (fun k => k = b) w w' := by
  obtain ⟨D, ⟨es, clock, hb, F, _, _⟩, _⟩ := h
  refine ⟨setBlock w b (.map #[] clock), ?_, ⟨.map [], ⟨#[], clock, heap_setBlock_same hb _, ⟨by simp, ?_, by simp⟩, Nat.le_refl _, rfl⟩, fun i _ => ⟨rfl, fun z => rfl⟩⟩, turned_chg ⟨es, clock, #[], clock, hb, rfl⟩⟩
  · simp [Builtin.clear_, run_underlying Try.underlying79, getObj, setObj, hb, Sem.run, Result.andThen, setBlock]
  · exact stamped_empty clock
end Go.Proofs.Ytkndnlhlglgmfaa
