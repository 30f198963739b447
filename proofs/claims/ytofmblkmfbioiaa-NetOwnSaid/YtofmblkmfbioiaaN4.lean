/-
  All letters of a net, copied; All, walked.
-/
import Derived.Test.YtofmblkmfbioiaaN3
namespace Go.Proofs.Ytofmblkmfbioiaa
open Go.RowKit
theorem own_up {W W' : World} {base n s : Nat} {e : TypeId} {v : Value} {xs : List Value} (h : W.ownsRow base e s v n xs) (hu : Up W W') : W'.ownsRow base e s v n xs := own_chg h hu (fun _ _ h => h)
theorem wpList_onel {ops : Array Oper} {rest : List Oper} {o : Oper} {a : Act} {w : World} {Q : Exit → Act → World → Prop} (hg : o.guard = none) (y : Operand) (ho : o.op = .buildSlice 41 1 #[(0, y)]) (f t : Int) (d : Value) (hy : a.eval y = .agg #[.int .i64 f, .int .i64 t, d])
    (h : wpList Try.prog ops Q rest (a.put o.dst (.slice (some ⟨w.heap.size, 0, none⟩) 1 1)) (w.alloc (.cells #[.int .i64 f, .int .i64 t, d] 29))) : wpList Try.prog ops Q (o :: rest) a w :=
  wpList_plain hg fun _ hK => by
    obtain ⟨i, hi, hzz⟩ := Option.map_eq_some_iff.1 info29z
    simp only [Prod.mk.injEq] at hzz
    obtain ⟨hz0, hz1, hz2⟩ := hzz
    have hrun : (Instr.buildSlice 41 1 #[(0, .agg #[.int .i64 f, .int .i64 t, d])]).run Try.prog w = .ok (.slice (some ⟨w.heap.size, 0, none⟩) 1 1) (w.alloc (.cells #[.int .i64 f, .int .i64 t, d] 29)) := by
      refine run_buildSlice w 41 29 1 _ _ i _ Try.underlying41 hi hz0 (by rw [hz1]; omega) (by rw [hz1]; omega) ?_
      rw [hz1]
      exact Great.fill_whole (s := 3) (by omega) [.agg #[.int .i64 f, .int .i64 t, d]] ((Array.range (1 * 3)).map ((Value.agg #[.int .i64 0, .int .i64 0, .slice none 0 0]).cells[· % (Value.agg #[.int .i64 0, .int .i64 0, .slice none 0 0]).cells.size]!)) (by intro v hv; obtain rfl := List.mem_singleton.1 hv; rfl) (by simp)
    unfold Oper.wp execOp
    simp only [ho, Sem.run_bind, List.map_toArray, List.map_cons, List.map_nil, hy, hrun, Result.andThen_ok]
    exact hK _ _ h
/-- Letters copied: rows of the call's own. -/
def CopR (W : World) (base : Nat) (v : Value) (ds : List Value) (ls : List Let) : Prop :=
  ds.length = ls.length ∧ W.ownsRow base 29 3 v ls.length (rowC ls ds) ∧ ∀ j, j < ls.length → W.ownsRow base 5 1 (ds.getD j undef) (ls.getD j default).2.2.length (u8s (ls.getD j default).2.2)
theorem dat_own {S : Nat → Prop} {w w' : World} {base : Nat} {d : Value} {xs : List Int} (h : w.ownsRow base 5 1 d xs.length (u8s xs)) (hc : Chg S w w') (hS : ∀ k cur fr, S k → w.heap[k]? ≠ some (.cells cur 5 fr)) : w'.ownsRow base 5 1 d xs.length (u8s xs) := by
  refine own_chg h hc fun k hk hs => ?_
  rcases h.2 with ⟨rfl, _⟩ | ⟨g, cap, cur, rfl, _, hg, _⟩
  · simp [Value.ownBlock] at hk
  · obtain rfl : g = k := by simpa [Value.ownBlock] using hk
    exact hS g _ _ hs hg
theorem row_not5 {W : World} {base n : Nat} {v : Value} {xs : List Value} (h : W.ownsRow base 29 3 v n xs) : ∀ k cur fr, v.ownBlock = some k → W.heap[k]? ≠ some (.cells cur 5 fr) := by
  intro k cur fr hk hg
  rcases h.2 with ⟨rfl, _⟩ | ⟨g, cap, cur', rfl, _, hg', _⟩
  · simp [Value.ownBlock] at hk
  · obtain rfl : g = k := by simpa [Value.ownBlock] using hk
    rw [hg'] at hg
    cases hg
theorem take_getD (ls : List Let) (k j : Nat) (h : j < k) : (ls.take k).getD j default = ls.getD j default := by simp [List.getD_eq_getElem?_getD, h]
theorem take_snoc (ls : List Let) (k : Nat) (h : k < ls.length) : ls.take (k + 1) = ls.take k ++ [ls.getD k default] := by
  rw [List.take_add_one, List.getElem?_eq_getElem h, List.getD_eq_getElem?_getD, List.getElem?_eq_getElem h]; rfl
set_option maxRecDepth 100000 in
set_option maxHeartbeats 4000000 in
theorem all_any (w : World) (p : Nat) (lv : Value) (ds : List Value) (ls : List Let) (sent : Int) (h : NetAt w p lv ds ls sent) (hn : ls.length ≤ 1024) (hx : ∀ j, j < ls.length → (ls.getD j default).2.2.length ≤ 1000000) :
    Calls Try.prog 18 #[.pointer (some ⟨p, 0, none⟩)] w (fun e w' => ∃ v ds', e = .returned v ∧ CopR w' w.heap.size v ds' ls ∧ Below w.heap.size w w') := by
  obtain ⟨A, c, rfl, hl1, hl2⟩ := h.shape
  have c0 := h.c0
  have HN := Lib.hid h
  have HX := Lib.hid hx
  clear h hx
  go_enter Try.func18, Try.ntmps18
  go_wp2_with fail
  clear c0
  go_loopw [3, 11] (fun o i wr => ∃ (k c2 : Nat) (B : Option Addr) (ds2 : List Value), k ≤ ls.length ∧ i = .int .i64 k ∧ o = .slice B k c2 ∧ CopR wr w.heap.size (.slice B k c2) ds2 (ls.take k) ∧ Up w wr) (fun _ i _ => ls.length - (intOf i).toNat)
  case atStart => exact ⟨0, 0, none, [], by omega, rfl, rfl, ⟨rfl, World.ownsRow_nil _ _ _ _, fun j hj => by simp at hj⟩, Chg.refl _ _⟩
  case round =>
    rename World => wo
    obtain ⟨k, c2, B, ds2, hk, rfl, rfl, hcop, hu⟩ := hrel
    by_cases hk2 : (k : Int) < ls.length
    · have hkk : k < ls.length := by omega
      have hn2 := HN.out.up hu
      have hdat := hn2.dat k hkk
      have hsn := take_snoc ls k hkk
      obtain ⟨g, rfl⟩ : ∃ g, A = some ⟨g, 0, none⟩ := by
        rcases hn2.row.2 with ⟨_, h0⟩ | ⟨g, cap, cur, he, _⟩
        · omega
        · injection he with e1; exact ⟨g, e1⟩
      obtain ⟨r0, r1, r2⟩ := row_cells hn2.row hn2.len k hkk
      have hxl := HX.out k hkk
      obtain ⟨x, hxe⟩ : ∃ x, ls.getD k default = x := ⟨_, rfl⟩
      rw [hxe] at hdat hsn r0 r1 hxl
      obtain ⟨f, t, xs⟩ := x
      dsimp only at hdat r0 r1 hxl
      obtain ⟨A3, c3, hd3⟩ := own_shape hdat
      rw [hd3] at r2 hdat
      obtain ⟨W1, hW1⟩ : ∃ W1, W1 = wo.alloc (.cells #[.int .i64 f, .int .i64 t, .slice A3 xs.length c3] 29) := ⟨_, rfl⟩
      have hu1 : Up wo W1 := by rw [hW1]; exact (Chg.refl _ wo).alloc _
      have hcl := copied_any W1 f t (.slice A3 xs.length c3) xs (hdat.chg hu1 (fun _ _ _ h => h.elim)).slb hxl
      have HCL := Lib.hid hcl
      have HW1 := Lib.hid hW1
      have HU1 := Lib.hid hu1
      have HU := Lib.hid hu
      have HCOP := Lib.hid hcop
      have HSN := Lib.hid hsn
      clear hn2 hdat hsn hxe hd3 hW1 hu1 hcl hu hcop
      go_wp2_with fail
      rw [← HW1.out]
      refine HCL.out.mono ?_
      rintro e W2 ⟨d', rfl, hown, hb2⟩
      obtain ⟨A4, c4, rfl⟩ := own_shape hown
      have hu2 : Up wo W2 := HU1.out.trans (up_below hb2)
      have hz := HU.out.size
      have hz2 := hu2.size
      have hz1 := HU1.out.size
      obtain ⟨W3, hW3⟩ : ∃ W3, W3 = W2.alloc (.cells #[.int .i64 f, .int .i64 t, .slice A4 xs.length c4] 29) := ⟨_, rfl⟩
      have hu3 : Up W2 W3 := by rw [hW3]; exact (Chg.refl _ W2).alloc _
      have hu03 := hu2.trans hu3
      have hlt : (ls.take k).length = k := by rw [List.length_take]; omega
      have hrow := own_up HCOP.out.2.1 hu03
      rw [hlt] at hrow
      have hpush := push_let W3 w.heap.size (by have := hu3.size; omega) (.slice B k c2) (ls.take k) ds2 HCOP.out.1 (by rw [hlt]; exact hrow) f t xs W2.heap.size A4 c4 (by rw [hW3]; exact heap_alloc_last _ _) (by omega)
      rw [hlt] at hpush
      obtain ⟨B5, c5, W5, hrun, ho5, hc5, _⟩ := hpush
      rw [hW3] at hrun
      have hold : ∀ j, j < k → W5.ownsRow w.heap.size 5 1 (ds2.getD j undef) (ls.getD j default).2.2.length (u8s (ls.getD j default).2.2) := fun j hj => by
        have h1 := HCOP.out.2.2 j (by rw [hlt]; exact hj)
        rw [take_getD ls k j hj] at h1
        exact dat_own (own_up h1 hu03) hc5 (row_not5 hrow)
      have hnew : W5.ownsRow w.heap.size 5 1 (.slice A4 xs.length c4) xs.length (u8s xs) := by
        exact dat_own (own_up (own_base hown (by omega)) hu3) hc5 (row_not5 hrow)
      have hcop5 : CopR W5 w.heap.size (.slice B5 (k + 1) c5) (ds2 ++ [.slice A4 xs.length c4]) (ls.take (k + 1)) := by
        have hdl : ds2.length = k := by rw [HCOP.out.1, hlt]
        rw [HSN.out]
        refine ⟨by simp [hdl, hlt], by rw [List.length_append, hlt]; exact ho5, fun j hj => ?_⟩
        rw [List.length_append, hlt] at hj
        simp only [List.length_cons, List.length_nil] at hj
        by_cases hjk : j < k
        · have e1 : (ds2 ++ [Value.slice A4 xs.length c4]).getD j undef = ds2.getD j undef := by simp [List.getD_eq_getElem?_getD, List.getElem?_append_left (show j < ds2.length by omega)]
          have e2 : (ls.take k ++ [(f, t, xs)]).getD j default = ls.getD j default := by
            rw [← take_getD ls k j hjk]
            simp [List.getD_eq_getElem?_getD, List.getElem?_append_left (show j < (ls.take k).length by omega)]
          rw [e1, e2]; exact hold j hjk
        · obtain rfl : j = k := by omega
          have e1 : (ds2 ++ [Value.slice A4 xs.length c4]).getD j undef = .slice A4 xs.length c4 := by simp [List.getD_eq_getElem?_getD, List.getElem?_append_right (show ds2.length ≤ j by omega), hdl]
          have e2 : (ls.take j ++ [(f, t, xs)]).getD j default = (f, t, xs) := by simp [List.getD_eq_getElem?_getD, List.getElem?_append_right (show (ls.take j).length ≤ j by omega), hlt]
          rw [e1, e2]; exact hnew
      have HRUN := Lib.hid hrun
      have HCOP5 := Lib.hid hcop5
      have HU5 := Lib.hid ((HU.out.trans hu03).then hc5 (fun i hi => .inr ((own_up HCOP.out.2.1 hu03).lt i hi).1))
      clear hown hb2 hu2 hu3 hu03 hrow ho5 hc5 hrun hold hnew hcop5 hW3 hlt
      go_wp2_with (first
        | refine wpList_onel rfl (.tmp 17) rfl f t (.slice A4 xs.length c4) (by rfl) ?_
        | (at_builtin; refine wpList_run_append rfl _ _ 41 rfl _ _ rfl rfl 41 rfl HRUN.out ?_))
      go_roundw
      case rel => exact ⟨k + 1, c5, B5, _, by omega, by go_num, rfl, HCOP5.out, HU5.out⟩
      case measure => simp [intOf]; omega
    · obtain rfl : k = ls.length := by omega
      have HCOP := Lib.hid hcop
      have HU := Lib.hid hu
      clear hcop hu
      go_wp2_with fail
      go_ret
      have h1 := HCOP.out
      rw [List.take_length] at h1
      exact ⟨_, rfl, ⟨ds2, h1⟩, HU.out.below_none (fun _ _ h => h)⟩
end Go.Proofs.Ytofmblkmfbioiaa
