/-
  What '==' says of two arrays of bytes. 
-/
import Derived.Test.YtaahffminoekfaaDoorC
import Derived.Laws.StructEq
import Derived.Test.YtaahffminoekfaaDoorK2
namespace Go.Proofs.YtaahffminoekfaaDoor
theorem all_range_eq : ∀ (xs ys : List Int), xs.length = ys.length → ((List.range xs.length).all fun i => xs.getD i 0 == ys.getD i 0) = (xs == ys)
  | [], [], _ => rfl
  | x :: xs, y :: ys, h => by
    have ih := all_range_eq xs ys (by simpa using h)
    rw [List.length_cons, List.range_succ_eq_map, List.all_cons, List.all_map]
    simp only [List.getD_cons_zero, Function.comp_def, List.getD_cons_succ, ih]
    simp [List.cons_beq_cons]
  | [], _ :: _, h => by simp at h
  | _ :: _, [], h => by simp at h
section
variable {P : Program} (w : World)
theorem run_equalIn_nums (d : Nat) (t e : TypeId) (n : Nat) (ht : P.underlying t = some (.array n e)) (he : P.underlying e = some (.int .u8)) (hsz : ∀ w, (sizeOf e).run P w = .ok 1 w)
    (xs ys : List Int) (hx : xs.length = n) (hy : ys.length = n) :
    (Op.equalIn (d + 2) t (.agg (u8s xs).toArray) (.agg (u8s ys).toArray)).run P w = .ok (xs == ys) w := by
  rw [← all_range_eq xs ys (hx.trans hy.symm), hx, List.range_eq_range', Op.equalIn]
  simp only [Sem.run_bind, run_underlying ht, Result.andThen_ok, hsz, Std.Legacy.Range.forIn_eq_forIn_range', Std.Legacy.Range.size, Nat.sub_zero, Nat.add_sub_cancel, Nat.div_one]
  have hl : ∀ i ∈ List.range' 0 n 1, i < n := fun i hi => by simpa using (List.mem_range'_1.1 hi).2
  generalize List.range' 0 n 1 = l at hl ⊢
  induction l with
  | nil => simp
  | cons i l ih =>
    have hi : i < n := hl i (by simp)
    have px : (part e (u8s xs).toArray (i * 1)).run P w = .ok (.int .u8 (xs.getD i 0)) w := by
      have hat := u8s_at (l := xs) (j := i) (by omega)
      rw [Nat.mul_one]
      simp only [part, isAgg, Sem.run_bind, run_underlying he, Result.andThen_ok]
      simp [hat]
    have py : (part e (u8s ys).toArray (i * 1)).run P w = .ok (.int .u8 (ys.getD i 0)) w := by
      have hat := u8s_at (l := ys) (j := i) (by omega)
      rw [Nat.mul_one]
      simp only [part, isAgg, Sem.run_bind, run_underlying he, Result.andThen_ok]
      simp [hat]
    have pe : (Op.equalIn (d + 1) e (.int .u8 (xs.getD i 0)) (.int .u8 (ys.getD i 0))).run P w = .ok (xs.getD i 0 == ys.getD i 0) w :=
      run_equalIn_int w d e .u8 .u8 _ _ he
    simp only [List.forIn_cons, Sem.run_bind, px, py, pe, Result.andThen_ok, List.all_cons]
    cases hb : (xs.getD i 0 == ys.getD i 0)
    · simp
    · simp only [Bool.not_true, Bool.false_eq_true, if_false, Sem.run_pure, Result.andThen_ok, Bool.true_and]
      exact ih fun j hj => hl j (by simp [hj])
theorem run_eql_nums (t e : TypeId) (n : Nat) (ht : P.underlying t = some (.array n e)) (he : P.underlying e = some (.int .u8)) (hsz : ∀ w, (sizeOf e).run P w = .ok 1 w)
    (xs ys : List Int) (hx : xs.length = n) (hy : ys.length = n) :
    (binOp .eql t (.agg (u8s xs).toArray) (.agg (u8s ys).toArray)).run P w = .ok (.bool (xs == ys)) w := by
  rw [run_eql_struct, run_equalIn_nums w 9998 t e n ht he hsz xs ys hx hy]
  rfl
theorem run_neq_nums (t e : TypeId) (n : Nat) (ht : P.underlying t = some (.array n e)) (he : P.underlying e = some (.int .u8)) (hsz : ∀ w, (sizeOf e).run P w = .ok 1 w)
    (xs ys : List Int) (hx : xs.length = n) (hy : ys.length = n) :
    (binOp .neq t (.agg (u8s xs).toArray) (.agg (u8s ys).toArray)).run P w = .ok (.bool (!(xs == ys))) w := by
  rw [run_neq_struct, run_equalIn_nums w 9998 t e n ht he hsz xs ys hx hy]
  rfl
end
end Go.Proofs.YtaahffminoekfaaDoor
namespace Go.Proofs.YtaahffminoekfaaDoor
open Go.RowKit
theorem Dig.chg {S : Nat → Prop} {w w' : World} {base p : Nat} {l : List Int} {rv : Value} (h : Dig w base p l rv) (hc : Chg S w w') (hp : ¬ S p) (ho : ∀ k, rv.ownBlock = some k → ¬ S k) : Dig w' base p l rv :=
  ⟨hc.heap h.cells hp, own_chg h.row hc ho, h.pb⟩
theorem Dig.below {w w' : World} {base p : Nat} {l : List Int} {rv : Value} (h : Dig w base p l rv) (hb : Below w.heap.size w w') : Dig w' base p l rv :=
  h.chg (Chg.of_below hb (fun _ => False)) (fun h => h) (fun _ _ h => h)
theorem Dig.lt {w : World} {base p : Nat} {l : List Int} {rv : Value} (h : Dig w base p l rv) : p < w.heap.size := (Array.getElem?_eq_some_iff.1 h.cells).1
theorem SlB.lt {w : World} {v : Value} {xs : List Int} (h : SlB w v xs) {b : Nat} (hb : Value.blk v = some b) (hn : 0 < xs.length) : b < w.heap.size := by
  obtain ⟨b', off, c, rfl, _⟩ := h.form hn
  injection hb with hb
  subst hb
  exact World.block_lt_of_cell? w ⟨b', off + 0, none⟩ (h.at_ 0 hn)
theorem SlB.below {w w' : World} {v : Value} {xs : List Int} (h : SlB w v xs) (hb : Below w.heap.size w w') : SlB w' v xs :=
  Src.chg h (Chg.of_below hb (fun _ => False)) (fun _ _ _ h => h) (by decide)
theorem SlB.chg {S : Nat → Prop} {w w' : World} {v : Value} {xs : List Int} (h : SlB w v xs) (hc : Chg S w w') (hS : ∀ i, i < w.heap.size → ¬ S i) : SlB w' v xs :=
  Src.chg h hc (fun b hb hn => hS b (h.lt hb hn)) (by decide)
theorem sizeOf5 (W : World) : (sizeOf 5).run Tryd.prog W = .ok 1 W := by
  have : (Tryd.prog.info? 5).map (·.size) = some 1 := by kernel_rfl
  obtain ⟨i, hi, h1⟩ := Option.map_eq_some_iff.1 this
  simp [sizeOf, typeInfo, hi, h1]
theorem eql25 (x y : List Int) (hx : x.length = 32) (hy : y.length = 32) (W : World) : (binOp .eql 25 (hashV x) (hashV y)).run Tryd.prog W = .ok (.bool (x == y)) W :=
  run_eql_nums W 25 5 32 Tryd.underlying25 Tryd.underlying5 sizeOf5 x y hx hy
theorem guard25 (op : BinOp) (x y : Operand) (a b : List Int) (W : World) : (eqGuard op 25 x y (hashV a) (hashV b)).run Tryd.prog W = .ok () W :=
  run_eqGuard_agg W op 25 x y _ _ (by kernel_rfl)
theorem neq25 (x y : List Int) (hx : x.length = 32) (hy : y.length = 32) (W : World) : (binOp .neq 25 (hashV x) (hashV y)).run Tryd.prog W = .ok (.bool (!(x == y))) W :=
  run_neq_nums W 25 5 32 Tryd.underlying25 Tryd.underlying5 sizeOf5 x y hx hy
/-- 'append([]byte{}, v...)'. -/
theorem app_empty (W : World) (v : Value) (xs : List Int) (h : SlB W v xs) (hn : xs.length ≤ 100000000) :
    ∃ A c w1, (Builtin.append_ #[22, 22] 22 #[.slice (some ⟨W.heap.size, 0, none⟩) 0 0, v]).run Tryd.prog (W.alloc (.cells #[] 5)) = .ok (.slice A xs.length c) w1 ∧
      w1.ownsRow W.heap.size 5 1 (.slice A xs.length c) xs.length (u8s xs) ∧ Below W.heap.size W w1 := by
  obtain ⟨v', w', hr, ho, hg, _, _⟩ := ap_run (P := Tryd.prog) (W.alloc (.cells #[] 5)) 22 22 W.heap.size 5 (.int .u8 0) 1 1 Tryd.underlying22 (by kernel_rfl) rfl (by decide) (.slice (some ⟨W.heap.size, 0, none⟩) 0 0) 0 []
    (World.ownsRow_made W #[] 0 (Nat.le_refl _) (by simp [maxLen]) (by simp)) v xs.length (u8s xs) (h.chg ((Chg.refl (fun _ => False) W).alloc _) (fun _ _ h => h)) (u8s_one xs) (by omega) (by omega) (by simp)
  rw [Nat.zero_add, List.nil_append] at ho
  obtain ⟨A, c, rfl⟩ := own_shape ho
  exact ⟨A, c, w', hr, ho, (((Chg.refl (fun _ => False) W).alloc _).then (Chg.of_grownBy hg) (fun i hi => .inr (by simp [Value.ownBlock] at hi; omega))).below_none (fun _ _ h => h)⟩
/-- 'append(v0, v...)'. -/
theorem app_more (W : World) (base n : Nat) (v0 v : Value) (l xs : List Int) (h0 : W.ownsRow base 5 1 v0 n (u8s l)) (h : SlB W v xs) (hn : n + xs.length ≤ 100000000) (hb : base ≤ W.heap.size) :
    ∃ A c w1, (Builtin.append_ #[22, 22] 22 #[v0, v]).run Tryd.prog W = .ok (.slice A (n + xs.length) c) w1 ∧
      w1.ownsRow base 5 1 (.slice A (n + xs.length) c) (n + xs.length) (u8s (l ++ xs)) ∧ Chg (fun i => v0.ownBlock = some i) W w1 := by
  obtain ⟨v', w', hr, ho, hg, _, _⟩ := ap_run (P := Tryd.prog) W 22 22 base 5 (.int .u8 0) 1 1 Tryd.underlying22 (by kernel_rfl) rfl (by decide) v0 n (u8s l) h0 v xs.length (u8s xs) h (u8s_one xs) (by omega) (by omega) hb
  obtain ⟨A, c, rfl⟩ := own_shape ho
  exact ⟨A, c, w', hr, by simpa [u8s] using ho, (Chg.of_grownBy hg).mono (fun i _ hi => hi.symm)⟩
theorem hash_of (xs : List Int) : (shaI xs).length = 32 := hash_size xs
set_option maxRecDepth 100000 in
set_option maxHeartbeats 1000000 in
theorem copies_guard (w : World) (a b c : List Int) (va vb vc : Value) (ha : SlB w va a) (hb : SlB w vb b) (hc : SlB w vc c) (hla : Laid w) (hg : 500 < a.length ∨ 500 < b.length ∨ 500 < c.length) :
    Calls Tryd.prog 5 #[va, vb, vc] w (TruePost w) := by
  have haw := awake_any w hla
  obtain ⟨A, ac, rfl, _⟩ := ha.shape
  obtain ⟨B, bc, rfl, _⟩ := hb.shape
  obtain ⟨C, cc, rfl, _⟩ := hc.shape
  have HA := Lib.hid haw
  clear haw hla ha hb hc
  by_cases h1 : (500 : Int) < a.length
  · clear hg
    go_enter Tryd.func5, Tryd.ntmps5
    go_wp2_with (go_at_call 21; refine HA.out.mono ?_; rintro e w' ⟨rfl, hb⟩)
    go_ret
    exact ⟨rfl, hb⟩
  by_cases h2 : (500 : Int) < b.length
  · clear hg
    go_enter Tryd.func5, Tryd.ntmps5
    go_wp2_with (go_at_call 21; refine HA.out.mono ?_; rintro e w' ⟨rfl, hb⟩)
    go_ret
    exact ⟨rfl, hb⟩
  have h3 : (500 : Int) < c.length := by omega
  clear hg
  go_enter Tryd.func5, Tryd.ntmps5
  go_wp2_with (go_at_call 21; refine HA.out.mono ?_; rintro e w' ⟨rfl, hb⟩)
  go_ret
  exact ⟨rfl, hb⟩
end Go.Proofs.YtaahffminoekfaaDoor
