/-
  Operations and what they give: loads and stores of whole arrays, appends.
-/
import Derived.Test.YtaahffminoekfaaDoorMI
import Derived.Deep.MidRow
namespace Go.Proofs.YtaahffminoekfaaDoor
theorem gv_load_row {P : Program} {o : Oper} {ρ : Operand → Value} {w : World} {Φ : Value → World → Prop} {x : Operand} {ty : TypeId} {g : Nat} {cs : Array Value} {t : TypeId} {fr : Nat × Nat} {d : TypeDesc} (ho : o.op = .load ty x) (hx : ρ x = .pointer (some ⟨g, 0, none⟩))
    (hg : w.heap[g]? = some (.cells cs t fr)) (hu : P.underlying ty = some d) (hd : (match d with | .struct _ | .array _ _ => true | _ => false) = true) (hi : (P.info? ty).map (·.size) = some cs.size) (k : Φ (.agg cs) w) : Gives P o ρ w Φ := by
  refine Gives.value (v := .agg cs) (w' := w) ?_ k
  unfold execOp
  simp only [ho, hx, Instr.loadAt, Instr.sureAddr, Sem.run_bind, Sem.run_pure, Result.andThen_ok, run_loadVar_row w g t ty cs fr d hg hu hd hi]
theorem gv_app {P : Program} {o : Oper} {ρ : Operand → Value} {w w' : World} {Φ : Value → World → Prop} {s x : Operand} {ats : Array TypeId} {ty : TypeId} {v xv v' : Value} (ho : o.op = .call { callee := .builtin .append, args := #[s, x], argTypes := ats }) (hty : o.type = ty)
    (hs : ρ s = v) (hx : ρ x = xv) (hrun : (Builtin.append_ ats ty #[v, xv]).run P w = .ok v' w') (k : Φ v' w') : Gives P o ρ w Φ := by
  refine Gives.value (v := v') (w' := w') ?_ k
  subst hty
  unfold execOp
  simp only [ho, resolve, invoke, builtin, Sem.run_bind, Sem.run_pure, Result.andThen_ok, List.map_toArray, List.map_cons, List.map_nil, hs, hx, hrun]
theorem gv_load_mid {P : Program} {o : Oper} {ρ : Operand → Value} {w : World} {Φ : Value → World → Prop} {x : Operand} {ty : TypeId} {b off : Nat} {cs : List Value} {d : TypeDesc} (ho : o.op = .load ty x) (hx : ρ x = .pointer (some ⟨b, off, none⟩))
    (hc : w.rangeAt b off cs) (hu : P.underlying ty = some d) (hd : d.isRow = true) (hi : (P.info? ty).map (·.size) = some cs.length) (k : Φ (.agg cs.toArray) w) : Gives P o ρ w Φ := by
  refine Gives.value (v := .agg cs.toArray) (w' := w) ?_ k
  unfold execOp
  simp only [ho, hx, Instr.loadAt, Instr.sureAddr, Sem.run_bind, Sem.run_pure, Result.andThen_ok, run_loadVar_mid w b off ty cs d hc hu hd hi]
theorem gv_store_mid {P : Program} {o : Oper} {ρ : Operand → Value} {w : World} {Φ : Value → World → Prop} {x y : Operand} {ty : TypeId} {b off : Nat} {cells : Array Value} (ho : o.op = .store ty x y) (hx : ρ x = .pointer (some ⟨b, off, none⟩)) (hy : ρ y = .agg cells)
    (ht : w.there b off cells.size) (hi : (P.info? ty).map (·.size) = some cells.size) (h1 : cells.all (·.oneCell') = true) (k : Φ undef (w.setCells b off cells.toList)) : Gives P o ρ w Φ := by
  refine Gives.skip (w' := w.setCells b off cells.toList) ?_ k
  unfold execOp
  simp only [ho, hx, hy, Sem.run_bind, Sem.run_pure, run_storeAt_mid w b off ty cells ht hi h1, Result.andThen_ok]
end Go.Proofs.YtaahffminoekfaaDoor
