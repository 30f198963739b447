import Derived.Test.YtaahffminoekfaaDoorA10
import Derived.Test.YtaahffminoekfaaDoorE
namespace Go.Proofs.YtaahffminoekfaaDoor
open Go.RowKit
theorem Dig.chg {S : Nat → Prop} {w w' : World} {base p : Nat} {l : List Int} {rv : Value} (h : Dig w base p l rv) (hc : Chg S w w') (hp : ¬ S p) (ho : ∀ k, rv.ownBlock = some k → ¬ S k) : Dig w' base p l rv :=
  ⟨hc.heap h.cells hp, own_chg h.row hc ho, h.pb⟩
theorem Dig.below {w w' : World} {base p : Nat} {l : List Int} {rv : Value} (h : Dig w base p l rv) (hb : Below w.heap.size w w') : Dig w' base p l rv :=
  h.chg (Chg.of_below hb (fun _ => False)) (fun h => h) (fun _ _ h => h)
theorem Dig.lt {w : World} {base p : Nat} {l : List Int} {rv : Value} (h : Dig w base p l rv) : p < w.heap.size := (Array.getElem?_eq_some_iff.1 h.cells).1
theorem SlB.lt {w : World} {v : Value} {xs : List Int} (h : SlB w v xs) {b : Nat} (hb : Value.blk v = some b) (hn : 0 < xs.length) : b < w.heap.size := by
  obtain ⟨b', off, c, rfl, _⟩ := h.form hn
  injection hb with hb
  subst hb
  exact World.block_lt_of_cell? w ⟨b', off + 0, none⟩ (h.at_ 0 hn)
theorem SlB.below {w w' : World} {v : Value} {xs : List Int} (h : SlB w v xs) (hb : Below w.heap.size w w') : SlB w' v xs :=
  Src.chg h (Chg.of_below hb (fun _ => False)) (fun _ _ _ h => h) (by decide)
theorem SlB.chg {S : Nat → Prop} {w w' : World} {v : Value} {xs : List Int} (h : SlB w v xs) (hc : Chg S w w') (hS : ∀ i, i < w.heap.size → ¬ S i) : SlB w' v xs :=
  Src.chg h hc (fun b hb hn => hS b (h.lt hb hn)) (by decide)
theorem sizeOf5 (W : World) : (sizeOf 5).run Tryd.prog W = .ok 1 W := by
  have : (Tryd.prog.info? 5).map (·.size) = some 1 := by kernel_rfl
  obtain ⟨i, hi, h1⟩ := Option.map_eq_some_iff.1 this
  simp [sizeOf, typeInfo, hi, h1]
theorem eql25 (x y : List Int) (hx : x.length = 32) (hy : y.length = 32) (W : World) : (binOp .eql 25 (hashV x) (hashV y)).run Tryd.prog W = .ok (.bool (x == y)) W :=
  run_eql_nums W 25 5 32 Tryd.underlying25 Tryd.underlying5 sizeOf5 x y hx hy
theorem guard25 (op : BinOp) (x y : Operand) (a b : List Int) (W : World) : (eqGuard op 25 x y (hashV a) (hashV b)).run Tryd.prog W = .ok () W :=
  run_eqGuard_agg W op 25 x y _ _ (by kernel_rfl)
theorem neq25 (x y : List Int) (hx : x.length = 32) (hy : y.length = 32) (W : World) : (binOp .neq 25 (hashV x) (hashV y)).run Tryd.prog W = .ok (.bool (!(x == y))) W :=
  run_neq_nums W 25 5 32 Tryd.underlying25 Tryd.underlying5 sizeOf5 x y hx hy
/-- 'append([]byte{}, v...)'. -/
theorem app_empty (W : World) (v : Value) (xs : List Int) (h : SlB W v xs) (hn : xs.length ≤ 100000000) :
    ∃ A c w1, (Builtin.append_ #[22, 22] 22 #[.slice (some ⟨W.heap.size, 0, none⟩) 0 0, v]).run Tryd.prog (W.alloc (.cells #[] 5)) = .ok (.slice A xs.length c) w1 ∧
      w1.ownsRow W.heap.size 5 1 (.slice A xs.length c) xs.length (u8s xs) ∧ Below W.heap.size W w1 := by
  obtain ⟨v', w', hr, ho, hg, _, _⟩ := ap_run (P := Tryd.prog) (W.alloc (.cells #[] 5)) 22 22 W.heap.size 5 (.int .u8 0) 1 1 Tryd.underlying22 (by kernel_rfl) rfl (by decide) (.slice (some ⟨W.heap.size, 0, none⟩) 0 0) 0 []
    (World.ownsRow_made W #[] 0 (Nat.le_refl _) (by simp [maxLen]) (by simp)) v xs.length (u8s xs) (h.chg ((Chg.refl (fun _ => False) W).alloc _) (fun _ _ h => h)) (u8s_one xs) (by omega) (by omega) (by simp)
  rw [Nat.zero_add, List.nil_append] at ho
  obtain ⟨A, c, rfl⟩ := own_shape ho
  exact ⟨A, c, w', hr, ho, (((Chg.refl (fun _ => False) W).alloc _).then (Chg.of_grownBy hg) (fun i hi => .inr (by simp [Value.ownBlock] at hi; omega))).below_none (fun _ _ h => h)⟩
/-- 'append(v0, v...)'. -/
theorem app_more (W : World) (base n : Nat) (v0 v : Value) (l xs : List Int) (h0 : W.ownsRow base 5 1 v0 n (u8s l)) (h : SlB W v xs) (hn : n + xs.length ≤ 100000000) (hb : base ≤ W.heap.size) :
    ∃ A c w1, (Builtin.append_ #[22, 22] 22 #[v0, v]).run Tryd.prog W = .ok (.slice A (n + xs.length) c) w1 ∧
      w1.ownsRow base 5 1 (.slice A (n + xs.length) c) (n + xs.length) (u8s (l ++ xs)) ∧ Chg (fun i => v0.ownBlock = some i) W w1 := by
  obtain ⟨v', w', hr, ho, hg, _, _⟩ := ap_run (P := Tryd.prog) W 22 22 base 5 (.int .u8 0) 1 1 Tryd.underlying22 (by kernel_rfl) rfl (by decide) v0 n (u8s l) h0 v xs.length (u8s xs) h (u8s_one xs) (by omega) (by omega) hb
  obtain ⟨A, c, rfl⟩ := own_shape ho
  exact ⟨A, c, w', hr, by simpa [u8s] using ho, (Chg.of_grownBy hg).mono (fun i _ hi => hi.symm)⟩
theorem hash_of (xs : List Int) : (shaI xs).length = 32 := hash_size xs
set_option maxRecDepth 100000 in
set_option maxHeartbeats 1000000 in
theorem copies_guard (w : World) (a b c : List Int) (va vb vc : Value) (ha : SlB w va a) (hb : SlB w vb b) (hc : SlB w vc c) (hla : Laid w) (hg : 500 < a.length ∨ 500 < b.length ∨ 500 < c.length) :
    Calls Tryd.prog 5 #[va, vb, vc] w (TruePost w) := by
  have haw := awake_any w hla
  obtain ⟨A, ac, rfl, _⟩ := ha.shape
  obtain ⟨B, bc, rfl, _⟩ := hb.shape
  obtain ⟨C, cc, rfl, _⟩ := hc.shape
  have HA := Lib.hid haw
  clear haw hla ha hb hc
  by_cases h1 : (500 : Int) < a.length
  · clear hg
    go_enter Tryd.func5, Tryd.ntmps5
    go_wp2_with (go_at_call 21; refine HA.out.mono ?_; rintro e w' ⟨rfl, hb⟩)
    go_ret
    exact ⟨rfl, hb⟩
  by_cases h2 : (500 : Int) < b.length
  · clear hg
    go_enter Tryd.func5, Tryd.ntmps5
    go_wp2_with (go_at_call 21; refine HA.out.mono ?_; rintro e w' ⟨rfl, hb⟩)
    go_ret
    exact ⟨rfl, hb⟩
  have h3 : (500 : Int) < c.length := by omega
  clear hg
  go_enter Tryd.func5, Tryd.ntmps5
  go_wp2_with (go_at_call 21; refine HA.out.mono ?_; rintro e w' ⟨rfl, hb⟩)
  go_ret
  exact ⟨rfl, hb⟩
end Go.Proofs.YtaahffminoekfaaDoor
