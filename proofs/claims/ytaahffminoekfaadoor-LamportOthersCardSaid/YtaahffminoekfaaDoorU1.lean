/-
  'slices.Grow' of nothing; 'slices.Concat': walked.
-/
import Derived.Test.YtaahffminoekfaaDoorT8
namespace Go.Proofs.YtaahffminoekfaaDoor
open Go.RowKit
/-- 'append([]T(nil), make([]T, n)...)'. -/
theorem run_append_made {P : Program} (w : World) (t s ty e : TypeId) (i : TypeInfo) (z : Value) (ht : P.underlying t = some (.slice e)) (hs : P.underlying s = some (.int .i64)) (hi : P.info? e = some i) (hz : i.zero = some z)
    (h1 : i.size = 1) (h2 : i.bytes = 1) (hzs : z.cells.size = 1) (n : Nat) (hn : 0 < n) (hn2 : n ≤ 100000000) :
    ∃ c w', (Builtin.append_ #[t, s] ty #[.slice none 0 0, .int .i64 (n : Int)]).run P w = .ok (.slice (some ⟨w.heap.size, 0, none⟩) n c) w' ∧ w'.ownsRow w.heap.size e 1 (.slice (some ⟨w.heap.size, 0, none⟩) 0 c) 0 [] ∧ Below w.heap.size w w' := by
  have hg := grownCap_ge w n 0 e
  have hm := grownCap_le_maxLen w n 0 e (by unfold maxLen; omega)
  have hnc : Builtin.nextslicecap n 0 = n := nextslicecap_zero hn
  have hw : IntKind.i64.wrap (n : Int) = n := IntWalk.i64_in _ (by omega)
  have a1 : ¬ ((n : Int) < 0) := by omega
  have a2 : ¬ ((281474976710656 : Int) < n) := by omega
  have a3 : ¬ (n = 0) := by omega
  have a4 : ¬ ((9223372036854775807 : Int) < n) := by omega
  have a5 : ¬ (281474976710656 < n) := by omega
  refine ⟨grownCap w n 0 e, w.drew.alloc (.cells ((Builtin.zeroCells z.cells n) ++ Builtin.zeroCells z.cells (grownCap w n 0 e - n)) e), ?_, ?_, ?_⟩
  · simp [Builtin.append_, run_underlying ht, run_underlying hs, sizeOf, typeInfo, hi, h1, h2, hw, asInt, asIntOf, hnc, hz, zeroValue, a1, a2, a3, a4, a5, Question.forced, run_firstCells_none, newRow, grownCap]
  · exact ⟨by simp, .inr ⟨w.heap.size, _, _, rfl, Nat.le_refl _, heap_alloc_new w.drew _, Nat.zero_le _, hm, by simp [size_zeroCells, hzs]; omega, by simp⟩⟩
  · exact ((Below.refl _ w).drew).alloc (Nat.le_refl _) _
theorem wpList_run_app2 {P : Program} {w w' : World} {ops : Array Oper} {rest : List Oper} {o : Oper} {a : Act} {Q : Exit → Act → World → Prop} {v' : Value} (hgd : o.guard = none) (s x : Operand) (ats : Array TypeId)
    (ho : o.op = .call { callee := .builtin .append, args := #[s, x], argTypes := ats }) (v xv : Value) (hs : a.eval s = v) (hx : a.eval x = xv) (ty : TypeId) (hty : o.type = ty) (hrun : (Builtin.append_ ats ty #[v, xv]).run P w = .ok v' w')
    (h : wpList P ops Q rest (a.put o.dst v') w') : wpList P ops Q (o :: rest) a w :=
  wpList_plain hgd fun _ hK => by
    subst hs hx hty
    unfold Oper.wp execOp
    simp only [ho, resolve, invoke, builtin, Sem.run_bind, Sem.run_pure, Result.andThen_ok, List.map_toArray, List.map_cons, List.map_nil, hrun]
    exact hK _ _ h
set_option maxRecDepth 100000 in
set_option maxHeartbeats 1000000 in
theorem grow_any (n : Nat) (w : World) (hn : n ≤ 100000000) : Calls Tryd.prog 85 #[.slice none 0 0, .int .i64 (n : Int)] w (RowPost 0 [] w) := by
  by_cases h0 : n = 0
  · subst h0
    go_enter Tryd.func85, Tryd.ntmps85
    go_wp2
    go_ret
    exact ⟨none, 0, rfl, World.ownsRow_nil _ _ _ _, Below.refl _ _⟩
  · have hpos : (0 : Int) < (n : Int) := by omega
    obtain ⟨i, hi, hzz⟩ := Option.map_eq_some_iff.1 (show (Tryd.prog.info? 5).map (fun i => (i.zero, i.size, i.bytes)) = some (some (.int .u8 0), 1, 1) by kernel_rfl)
    simp only [Prod.mk.injEq] at hzz
    obtain ⟨hz0, hz1, hz2⟩ := hzz
    obtain ⟨c, w', hr, ho, hb⟩ := run_append_made (P := Tryd.prog) w 22 3 22 5 i (.int .u8 0) Tryd.underlying22 Tryd.underlying3 hi hz0 hz1 hz2 rfl n (by omega) hn
    have HR := Lib.hid hr
    have HO := Lib.hid ho
    have HB := Lib.hid hb
    clear hr ho hb hz0 hz1 hz2 hi h0
    go_enter Tryd.func85, Tryd.ntmps85
    go_wp2_with (at_builtin; refine wpList_run_app2 rfl _ _ #[22, 3] rfl _ _ rfl rfl 22 rfl HR.out ?_)
    go_ret
    exact ⟨_, c, rfl, HO.out, HB.out⟩
set_option maxRecDepth 100000 in
set_option maxHeartbeats 2000000 in
theorem concat_any (v : Value) (ls : List (List Int)) (F : List Int) (w : World) (h : SlBB w v ls) (hF : ls.flatten = F) (hlen : F.length ≤ 10000000) :
    Calls Tryd.prog 69 #[v] w (RowPost F.length F w) := by
  have hsm := h.small
  have hsh : ∃ A c, v = .slice A ls.length c := by
    rcases h with ⟨rfl, rfl⟩ | ⟨a, c, V, rfl, _⟩
    · exact ⟨_, _, rfl⟩
    · exact ⟨_, _, rfl⟩
  obtain ⟨A, ac, rfl⟩ := hsh
  have HV := Lib.hid h
  have HF := Lib.hid hF
  have HLEN := Lib.hid hlen
  clear h hlen hF
  have part : ∀ j, (ls.take j).flatten.length ≤ F.length := fun j => by
    rw [← HF.out]
    have e := congrArg (fun l => (List.flatten l).length) (List.take_append_drop j ls)
    simp only [List.flatten_append, List.length_append] at e
    omega
  have HP := Lib.hid part
  clear part
  go_enter Tryd.func69, Tryd.ntmps69
  go_wp2_with fail
  go_loopw [3, 11] (fun s i wr => ∃ (j : Nat), j ≤ ls.length ∧ i = .int .i64 j ∧ s = .int .i64 ((ls.take j).flatten.length : Int) ∧ wr = w) (fun _ i _ => ls.length - (intOf i).toNat)
  case atStart => exact ⟨0, by omega, rfl, by simp, rfl⟩
  case round =>
    obtain ⟨j, hj, rfl, rfl, rfl⟩ := hrel
    by_cases hjl : (j : Int) < ls.length
    · obtain ⟨b, off, cap, V, hv, _, _, hbs, hr⟩ := HV.out.form (by omega)
      obtain ⟨hc, hs, _⟩ := hr j (by omega)
      injection hv with h1 h2 h3
      subst h1 h3
      have hfs := flat_succ ls j (by omega)
      have hfl := HP.out (j + 1)
      have hlen := HLEN.out
      obtain ⟨x, hx⟩ : ∃ x, ls.getD j [] = x := ⟨_, rfl⟩
      obtain ⟨L, hL⟩ : ∃ L, (ls.take j).flatten = L := ⟨_, rfl⟩
      rw [hx] at hs hfs
      rw [hfs, List.length_append] at hfl
      rw [hL] at hfs hfl ⊢
      obtain ⟨X, xc, hvk, _⟩ := hs.shape
      rw [hvk] at hc
      have HFS := Lib.hid hfs
      have hxs : L.length + x.length ≤ 10000000 := by omega
      clear h2 hr hs hfs hx hvk hL hfl hlen
      go_wp2
      go_roundw
      case rel => exact ⟨j + 1, by omega, by go_num, by rw [HFS.out, List.length_append]; go_num, trivial⟩
      case measure => simp [intOf]; omega
    · obtain rfl : j = ls.length := by omega
      rw [List.take_length, HF.out]
      have hlen := HLEN.out
      go_wp2_with fail
      refine (grow_any F.length wr (by omega)).mono ?_
      rintro e W1 ⟨A1, c1, rfl, o1, b1⟩
      have O1 := Lib.hid o1
      have B1 := Lib.hid b1
      clear o1 b1
      go_wp2_with fail
      go_loopw [6, 27] (fun o i wi => ∃ (j c : Nat) (B : Option Addr), j ≤ ls.length ∧ i = .int .i64 j ∧ o = .slice B (ls.take j).flatten.length c ∧ wi.ownsRow wr.heap.size 5 1 (.slice B (ls.take j).flatten.length c) (ls.take j).flatten.length (u8s (ls.take j).flatten) ∧ Below wr.heap.size wr wi) (fun _ i _ => ls.length - (intOf i).toNat)
      case atStart => exact ⟨0, c1, A1, by omega, rfl, rfl, O1.out, B1.out⟩
      case round =>
        clear O1 B1
        rename World => wo
        obtain ⟨j, c, B, hj, rfl, rfl, ho, hb⟩ := hrel
        have HO := Lib.hid ho
        have HB := Lib.hid hb
        clear ho hb
        by_cases hjl : (j : Int) < ls.length
        · obtain ⟨b, off, cap, V, hv, _, _, hbs, hr⟩ := HV.out.form (by omega)
          obtain ⟨hc, hs, _⟩ := hr j (by omega)
          have hc' := HB.out.cell (p := ⟨b, off + j, none⟩) hbs
          rw [hc] at hc'
          injection hv with h1 h2 h3
          subst h1 h3
          have hfs := flat_succ ls j (by omega)
          have hfl := HP.out (j + 1)
          have hs' := hs.up (up_below HB.out)
          obtain ⟨x, hx⟩ : ∃ x, ls.getD j [] = x := ⟨_, rfl⟩
          obtain ⟨L, hL⟩ : ∃ L, (ls.take j).flatten = L := ⟨_, rfl⟩
          rw [hx] at hs' hfs
          rw [hfs, List.length_append] at hfl
          rw [hL] at hfs hfl HO ⊢
          obtain ⟨X, xc, hvk, _⟩ := hs'.shape
          rw [hvk] at hc' hs'
          obtain ⟨A2, c2, w2, hrun, ho2, hc2⟩ := app_more wo wr.heap.size L.length _ _ L x HO.out hs' (by omega) HB.out.size
          have HR := Lib.hid hrun
          have HO2 := Lib.hid ho2
          have HC2 := Lib.hid hc2
          have HFS := Lib.hid hfs
          clear h2 hr hs hfs hx hvk hL hs' hrun ho2 hc2 hc
          go_wp2_with (at_builtin; refine wpList_run_append rfl _ _ 22 rfl _ _ rfl rfl 22 rfl HR.out ?_)
          go_roundw
          case rel =>
            refine ⟨j + 1, c2, A2, by omega, by go_num, by rw [HFS.out, List.length_append], ?_, ?_⟩
            · rw [HFS.out, List.length_append]; exact HO2.out
            · exact ((Chg.of_below HB.out (fun i => wr.heap.size ≤ i)).then HC2.out (fun i hi => .inl (HO.out.lt i hi).1)).below (Nat.le_refl _) (fun _ h => h)
          case measure => simp [intOf]; omega
        · obtain rfl : j = ls.length := by omega
          rw [List.take_length, HF.out] at HO ⊢
          go_wp2
          go_ret
          exact ⟨B, c, rfl, HO.out, HB.out⟩
set_option maxRecDepth 100000 in
set_option maxHeartbeats 1000000 in
theorem input_any (k : Int) (v : Value) (ls : List (List Int)) (F : List Int) (w : World) (h : SlBB w v ls) (hF : ls.flatten = F) (hlen : F.length ≤ 10000000) :
    Calls Tryd.prog 49 #[.int .i64 k, v] w (RowPost (1 + F.length) (k % 256 :: F) w) := by
  have hsh : ∃ A c, v = .slice A ls.length c := by
    rcases h with ⟨rfl, rfl⟩ | ⟨a, c, V, rfl, _⟩
    · exact ⟨_, _, rfl⟩
    · exact ⟨_, _, rfl⟩
  obtain ⟨A, ac, rfl⟩ := hsh
  obtain ⟨W0, hW0⟩ : ∃ W0, W0 = w.alloc (.cells #[.int .u8 (k % 256)] 5) := ⟨_, rfl⟩
  have hs := h.up (w' := W0) (by rw [hW0]; exact (Chg.refl _ w).alloc _)
  have HS := Lib.hid (concat_any _ ls F W0 hs hF hlen)
  have O0 : Hid (W0.ownsRow w.heap.size 5 1 (.slice (some ⟨w.heap.size, 0, none⟩) 1 1) 1 (u8s [k % 256])) := Lib.hid (by rw [hW0]; exact own_lit w [k % 256] (by simp))
  have B0 : Hid (Below w.heap.size w W0) := Lib.hid (by rw [hW0]; exact (Below.refl _ _).alloc (Nat.le_refl _) _)
  have HW := Lib.hid hW0
  have HLEN := Lib.hid hlen
  clear hs h hF hlen hW0
  go_enter Tryd.func49, Tryd.ntmps49
  go_wp2_with fail
  rw [← HW.out]
  refine HS.out.mono ?_
  rintro e W1 ⟨A1, c1, rfl, o1, b1⟩
  obtain ⟨A2, c2, w2, hrun, ho2, hc2⟩ := app_more W1 w.heap.size 1 _ _ [k % 256] F (own_chg O0.out (up_below b1) (fun _ _ h => h)) (own_src o1) (by have := HLEN.out; omega) (Nat.le_trans B0.out.size b1.size)
  have HR := Lib.hid hrun
  have HO2 := Lib.hid ho2
  have HC2 : Hid (Below w.heap.size w w2) := Lib.hid (((Chg.of_below (B0.out.trans (b1.mono B0.out.size)) (fun i => w.heap.size ≤ i)).then hc2 (fun i hi => .inl (by simp [Value.ownBlock] at hi; omega))).below (Nat.le_refl _) (fun _ h => h))
  clear hrun ho2 hc2 o1 b1
  go_wp2_with (at_builtin; refine wpList_run_append rfl _ _ 22 rfl _ _ rfl rfl 22 rfl HR.out ?_)
  go_ret
  exact ⟨A2, c2, rfl, HO2.out, HC2.out⟩
end Go.Proofs.YtaahffminoekfaaDoor
