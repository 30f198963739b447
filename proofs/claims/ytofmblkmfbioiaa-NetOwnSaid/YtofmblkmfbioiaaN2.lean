/-
  A letter is added to a net: add, walked.
-/
import Derived.Test.YtofmblkmfbioiaaN1
import Derived.Great.BuildSlice
namespace Go.Proofs.Ytofmblkmfbioiaa
open Go.RowKit
theorem up_below {a b : World} (h : Below a.heap.size a b) : Up a b := Chg.of_below h _
theorem letC_one (x : Let) (A : Option Addr) (n c : Nat) : ∀ u ∈ letC x (.slice A n c), u.oneCell' = true := by
  intro u hu
  simp [letC] at hu
  rcases hu with rfl | rfl | rfl <;> rfl
theorem info29z : (Try.prog.info? 29).map (fun i => (i.zero, i.size, i.bytes)) = some (some (.agg #[.int .i64 0, .int .i64 0, .slice none 0 0]), 3, 40) := by kernel_rfl
theorem rowC_snoc (ls : List Let) (ds : List Value) (x : Let) (d : Value) (h : ds.length = ls.length) : rowC (ls ++ [x]) (ds ++ [d]) = rowC ls ds ++ letC x d := by
  unfold rowC
  rw [List.zipWith_append h.symm, List.flatten_append]
  simp
/-- A row of one letter whose bytes are its own. -/
def OneL (b : Nat) (f t : Int) (xs : List Int) (v : Value) (W : World) : Prop := ∃ g A c, v = .slice (some ⟨g, 0, none⟩) 1 1 ∧ W.heap[g]? = some (.cells #[.int .i64 f, .int .i64 t, .slice A xs.length c] 29 (0, 0)) ∧ W.ownsRow b 5 1 (.slice A xs.length c) xs.length (u8s xs)
theorem OneL.up {b : Nat} {f t : Int} {xs : List Int} {v : Value} {W W' : World} (h : OneL b f t xs v W) (hu : Up W W') : OneL b f t xs v W' := by
  obtain ⟨g, A, c, e, h1, h2⟩ := h
  exact ⟨g, A, c, e, hu.heap h1 (fun h => h), own_chg h2 hu (fun _ _ h => h)⟩
def LetV (b : Nat) (f t : Int) (xs : List Int) (v : Value) (W : World) : Prop := ∃ A c, v = .agg #[.int .i64 f, .int .i64 t, .slice A xs.length c] ∧ W.ownsRow b 5 1 (.slice A xs.length c) xs.length (u8s xs)
theorem LetV.up {b : Nat} {f t : Int} {xs : List Int} {v : Value} {W W' : World} (h : LetV b f t xs v W) (hu : Up W W') : LetV b f t xs v W' := by
  obtain ⟨A, c, e, h2⟩ := h
  exact ⟨A, c, e, own_chg h2 hu (fun _ _ h => h)⟩
theorem own_shape {W : World} {base n : Nat} {e : TypeId} {s : Nat} {v : Value} {xs : List Value} (h : W.ownsRow base e s v n xs) : ∃ A c, v = .slice A n c := by
  rcases h.2 with ⟨rfl, h0⟩ | ⟨g, cap, cur, rfl, _⟩
  · rw [h0]; exact ⟨none, 0, rfl⟩
  · exact ⟨_, cap, rfl⟩
theorem own_base {W : World} {base base' n s : Nat} {e : TypeId} {v : Value} {xs : List Value} (h : W.ownsRow base e s v n xs) (hb : base' ≤ base) : W.ownsRow base' e s v n xs := by
  refine ⟨h.1, ?_⟩
  rcases h.2 with hn | ⟨g, cap, cur, rfl, hb1, hrest⟩
  · exact .inl hn
  · exact .inr ⟨g, cap, cur, rfl, by omega, hrest⟩
theorem gives_copied {o : Oper} {ρ : Operand → Value} {w : World} {Φ : Value → World → Prop} {x : Operand} {f t : Int} {d : Value} {xs : List Int} (ho : o.op = .call { callee := .value (.func 29), args := #[x], argTypes := #[29] }) (hf : ∀ f, ρ (.func f) = .func (.func f) #[] #[]) (hx : ρ x = .agg #[.int .i64 f, .int .i64 t, d])
    (h : SlB w d xs) (hn : xs.length ≤ 1000000) {b : Nat} (hB : b ≤ w.heap.size) (k : ∀ v w', Up w w' → LetV b f t xs v w' → Φ v w') : Gives Try.prog o ρ w Φ := by
  refine gives_call ho hf Try.func29 rfl (by kernel_rfl) (args := #[.agg #[.int .i64 f, .int .i64 t, d]]) (by simp [hx]) ((copied_any w f t d xs h hn).mono ?_)
  rintro e w2 ⟨d', rfl, hown, hb⟩
  obtain ⟨A, c, rfl⟩ := own_shape hown
  exact ⟨_, rfl, k _ _ (up_below hb) ⟨A, c, rfl, own_base hown hB⟩⟩
theorem gives_onel {o : Oper} {ρ : Operand → Value} {w : World} {Φ : Value → World → Prop} {x : Operand} {b : Nat} {f t : Int} {xs : List Int} (ho : o.op = .buildSlice 41 1 #[(0, x)]) (h : LetV b f t xs (ρ x) w) (k : ∀ v w', Up w w' → OneL b f t xs v w' → Φ v w') : Gives Try.prog o ρ w Φ := by
  obtain ⟨A, c, hx, hd⟩ := h
  obtain ⟨i, hi, hzz⟩ := Option.map_eq_some_iff.1 info29z
  simp only [Prod.mk.injEq] at hzz
  obtain ⟨hz0, hz1, hz2⟩ := hzz
  have hrun : (Instr.buildSlice 41 1 #[(0, .agg #[.int .i64 f, .int .i64 t, .slice A xs.length c])]).run Try.prog w = .ok (.slice (some ⟨w.heap.size, 0, none⟩) 1 1) (w.alloc (.cells #[.int .i64 f, .int .i64 t, .slice A xs.length c] 29)) := by
    refine run_buildSlice w 41 29 1 _ _ i _ Try.underlying41 hi hz0 (by rw [hz1]; omega) (by rw [hz1]; omega) ?_
    rw [hz1]
    have := Great.fill_whole (s := 3) (by omega) [.agg #[.int .i64 f, .int .i64 t, .slice A xs.length c]] ((Array.range (1 * 3)).map ((Value.agg #[.int .i64 0, .int .i64 0, .slice none 0 0]).cells[· % (Value.agg #[.int .i64 0, .int .i64 0, .slice none 0 0]).cells.size]!)) (by intro v hv; obtain rfl := List.mem_singleton.1 hv; rfl) (by simp)
    exact this
  have hu : Up w (w.alloc (.cells #[.int .i64 f, .int .i64 t, .slice A xs.length c] 29)) := (Chg.refl _ w).alloc _
  refine Gives.value (v := .slice (some ⟨w.heap.size, 0, none⟩) 1 1) (w' := w.alloc (.cells #[.int .i64 f, .int .i64 t, .slice A xs.length c] 29)) ?_ (k _ _ hu ⟨_, A, c, rfl, heap_alloc_last _ _, own_chg hd hu (fun _ _ h => h)⟩)
  unfold execOp
  simp only [ho, Sem.run_bind, List.map_toArray, List.map_cons, List.map_nil, hx, hrun, Result.andThen_ok, Sem.run_pure]
/-- A letter added to a row of the net's own. -/
theorem push_let (w : World) (base : Nat) (hbase : base ≤ w.heap.size) (v : Value) (ls : List Let) (ds : List Value) (hd : ds.length = ls.length) (hown : w.ownsRow base 29 3 v ls.length (rowC ls ds)) (f t : Int) (xs : List Int) (g : Nat) (A : Option Addr) (c : Nat) (hg : w.heap[g]? = some (.cells #[.int .i64 f, .int .i64 t, .slice A xs.length c] 29 (0, 0))) (hn : ls.length ≤ 100000) :
    ∃ B c2 w', (Builtin.append_ #[41, 41] 41 #[v, .slice (some ⟨g, 0, none⟩) 1 1]).run Try.prog w = .ok (.slice B (ls.length + 1) c2) w' ∧ w'.ownsRow base 29 3 (.slice B (ls.length + 1) c2) (ls.length + 1) (rowC (ls ++ [(f, t, xs)]) (ds ++ [.slice A xs.length c])) ∧
      Chg (fun k => v.ownBlock = some k) w w' ∧ ((Value.slice B (ls.length + 1) c2).ownBlock = v.ownBlock ∨ ∃ g, (Value.slice B (ls.length + 1) c2).ownBlock = some g ∧ w.heap.size ≤ g) := by
  obtain ⟨v', w', hr, ho, hgr, _, hb⟩ := ap_run (P := Try.prog) w 41 41 base 29 (.agg #[.int .i64 0, .int .i64 0, .slice none 0 0]) 3 40 Try.underlying41 info29z rfl (by decide) v ls.length _ hown (.slice (some ⟨g, 0, none⟩) 1 1) 1 (letC (f, t, xs) (.slice A xs.length c))
    (.inr ⟨_, 1, rfl, rfl, Nat.le_refl _, by omega, fun j u hu => by
      rw [addr_add, cell_of_row _ _ _ _ _ _ hg, Nat.zero_add]
      simpa [letC] using hu⟩) (letC_one _ _ _ _) (by omega) (by omega) hbase
  obtain ⟨B, c2, rfl⟩ := own_shape ho
  refine ⟨B, c2, w', hr, ?_, (Chg.of_grownBy hgr).mono (fun i _ hi => hi.symm), ?_⟩
  · rw [rowC_snoc _ _ _ _ hd]; exact ho
  · rcases hb with hb | hb
    · exact .inl hb
    · exact .inr ⟨_, hb, Nat.le_refl _⟩
end Go.Proofs.Ytofmblkmfbioiaa
