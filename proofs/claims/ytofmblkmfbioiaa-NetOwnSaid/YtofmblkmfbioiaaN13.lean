/-
  Letters as the document has them; Without, walked.
-/
import Derived.Test.YtofmblkmfbioiaaN12
namespace Go.Proofs.Ytofmblkmfbioiaa
open Go.RowKit
/-- A letter's cells as the document has it. -/
def refC (x : Let) : List Value := [.int .i64 x.1, .int .i64 x.2.1, .string (strOfNums x.2.2)]
def rowR (ls : List Let) : List Value := (ls.map refC).flatten
theorem rowR_snoc (ls : List Let) (x : Let) : rowR (ls ++ [x]) = rowR ls ++ refC x := by simp [rowR]
theorem rowR_len (ls : List Let) : (rowR ls).length = 3 * ls.length := by
  induction ls with
  | nil => rfl
  | cons x ls ih =>
    have : rowR (x :: ls) = refC x ++ rowR ls := by simp [rowR]
    rw [this, List.length_append, ih, List.length_cons]
    simp [refC]
    omega
theorem rowR_at : ∀ (ls : List Let) (k : Nat), k < ls.length → (rowR ls)[3 * k]? = some (.int .i64 (ls.getD k default).1) ∧ (rowR ls)[3 * k + 1]? = some (.int .i64 (ls.getD k default).2.1) ∧ (rowR ls)[3 * k + 2]? = some (.string (strOfNums (ls.getD k default).2.2))
  | [], _, h => by simp at h
  | x :: ls, 0, _ => by simp [rowR, refC]
  | x :: ls, k + 1, hk => by
    have ih := rowR_at ls k (by simpa using hk)
    have e : rowR (x :: ls) = refC x ++ rowR ls := by simp [rowR]
    have hl : (refC x).length = 3 := rfl
    rw [e, List.getElem?_append_right (by omega), List.getElem?_append_right (by omega), List.getElem?_append_right (by omega), hl, show 3 * (k + 1) - 3 = 3 * k by omega, show 3 * (k + 1) + 1 - 3 = 3 * k + 1 by omega, show 3 * (k + 1) + 2 - 3 = 3 * k + 2 by omega]
    simpa using ih
/-- A list of letters as the document has them, in a row of its own. -/
def XAt (w : World) (base : Nat) (v : Value) (ls : List Let) : Prop := w.ownsRow base 49 3 v ls.length (rowR ls)
theorem XAt.cells {w : World} {base g n c : Nat} {ls : List Let} (h : XAt w base (.slice (some ⟨g, 0, none⟩) n c) ls) (k : Nat) (hk : k < ls.length) :
    w.cell? ⟨g, k * 3, none⟩ = some (.int .i64 (ls.getD k default).1) ∧ w.cell? ⟨g, k * 3 + 1, none⟩ = some (.int .i64 (ls.getD k default).2.1) ∧ w.cell? ⟨g, k * 3 + 2, none⟩ = some (.string (strOfNums (ls.getD k default).2.2)) := by
  obtain ⟨a, b, d⟩ := rowR_at ls k hk
  have h1 := World.ownsRow.cells h rfl (3 * k) _ a
  have h2 := World.ownsRow.cells h rfl (3 * k + 1) _ b
  have h3 := World.ownsRow.cells h rfl (3 * k + 2) _ d
  rw [addr_add, Nat.zero_add, Nat.mul_comm] at h1
  rw [addr_add, Nat.zero_add, show 3 * k + 1 = k * 3 + 1 by omega] at h2
  rw [addr_add, Nat.zero_add, show 3 * k + 2 = k * 3 + 2 by omega] at h3
  exact ⟨h1, h2, h3⟩
theorem info49z : (Try.prog.info? 49).map (fun i => (i.zero, i.size, i.bytes)) = some (some (.agg #[.int .i64 0, .int .i64 0, .string ⟨#[]⟩]), 3, 32) := by kernel_rfl
theorem wpList_oneR {ops : Array Oper} {rest : List Oper} {o : Oper} {a : Act} {w : World} {Q : Exit → Act → World → Prop} (hg : o.guard = none) (y : Operand) (ho : o.op = .buildSlice 34 1 #[(0, y)]) (f t : Int) (s : ByteArray) (hy : a.eval y = .agg #[.int .i64 f, .int .i64 t, .string s])
    (h : wpList Try.prog ops Q rest (a.put o.dst (.slice (some ⟨w.heap.size, 0, none⟩) 1 1)) (w.alloc (.cells #[.int .i64 f, .int .i64 t, .string s] 49))) : wpList Try.prog ops Q (o :: rest) a w :=
  wpList_plain hg fun _ hK => by
    obtain ⟨i, hi, hzz⟩ := Option.map_eq_some_iff.1 info49z
    simp only [Prod.mk.injEq] at hzz
    obtain ⟨hz0, hz1, hz2⟩ := hzz
    have hrun : (Instr.buildSlice 34 1 #[(0, .agg #[.int .i64 f, .int .i64 t, .string s])]).run Try.prog w = .ok (.slice (some ⟨w.heap.size, 0, none⟩) 1 1) (w.alloc (.cells #[.int .i64 f, .int .i64 t, .string s] 49)) := by
      refine run_buildSlice w 34 49 1 _ _ i _ Try.underlying34 hi hz0 (by rw [hz1]; omega) (by rw [hz1]; omega) ?_
      rw [hz1]
      exact Great.fill_whole (s := 3) (by omega) [.agg #[.int .i64 f, .int .i64 t, .string s]] ((Array.range (1 * 3)).map ((Value.agg #[.int .i64 0, .int .i64 0, .string ⟨#[]⟩]).cells[· % (Value.agg #[.int .i64 0, .int .i64 0, .string ⟨#[]⟩]).cells.size]!)) (by intro v hv; obtain rfl := List.mem_singleton.1 hv; rfl) (by simp)
    unfold Oper.wp execOp
    simp only [ho, Sem.run_bind, List.map_toArray, List.map_cons, List.map_nil, hy, hrun, Result.andThen_ok]
    exact hK _ _ h
/-- A letter added to a list as the document has it. -/
theorem push_ref (w : World) (base : Nat) (hbase : base ≤ w.heap.size) (v : Value) (ls : List Let) (hown : XAt w base v ls) (x : Let) (g : Nat) (hg : w.heap[g]? = some (.cells #[.int .i64 x.1, .int .i64 x.2.1, .string (strOfNums x.2.2)] 49 (0, 0))) (hn : ls.length ≤ 100000) :
    ∃ B c2 w', (Builtin.append_ #[34, 34] 34 #[v, .slice (some ⟨g, 0, none⟩) 1 1]).run Try.prog w = .ok (.slice B (ls.length + 1) c2) w' ∧ XAt w' base (.slice B (ls.length + 1) c2) (ls ++ [x]) ∧
      Chg (fun k => v.ownBlock = some k) w w' ∧ ((Value.slice B (ls.length + 1) c2).ownBlock = v.ownBlock ∨ ∃ g, (Value.slice B (ls.length + 1) c2).ownBlock = some g ∧ w.heap.size ≤ g) := by
  obtain ⟨v', w', hr, ho, hgr, _, hb⟩ := ap_run (P := Try.prog) w 34 34 base 49 (.agg #[.int .i64 0, .int .i64 0, .string ⟨#[]⟩]) 3 32 Try.underlying34 info49z rfl (by decide) v ls.length _ hown (.slice (some ⟨g, 0, none⟩) 1 1) 1 (refC x)
    (.inr ⟨_, 1, rfl, rfl, Nat.le_refl _, by omega, fun j u hu => by
      rw [addr_add, cell_of_row _ _ _ _ _ _ hg, Nat.zero_add]
      simpa [refC] using hu⟩) (by intro u hu; simp [refC] at hu; rcases hu with rfl | rfl | rfl <;> rfl) (by omega) (by omega) hbase
  obtain ⟨B, c2, rfl⟩ := own_shape ho
  refine ⟨B, c2, w', hr, ?_, (Chg.of_grownBy hgr).mono (fun i _ hi => hi.symm), ?_⟩
  · unfold XAt
    rw [rowR_snoc, List.length_append]; exact ho
  · rcases hb with hb | hb
    · exact .inl hb
    · exact .inr ⟨_, hb, Nat.le_refl _⟩
end Go.Proofs.Ytofmblkmfbioiaa
