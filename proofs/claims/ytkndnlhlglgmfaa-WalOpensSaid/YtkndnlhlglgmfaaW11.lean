/-
  A wal's small methods, and Read, walked. The steps of a commit: mark's and write's functions, walked. The steps of a commit: write's function, walked. The makers of a commit's steps; apply's function, walked. Steps, one by one, till one of them has an error: walked, whatever the steps are.
-/
import Derived.Test.YtkndnlhlglgmfaaW6
namespace Go.Proofs.Ytkndnlhlglgmfaa
open Go.RowKit
theorem WalAt.c0 {w : World} {q p : Nat} {home : Int} {dn : Bool} (h : WalAt w q p home dn) : w.cell? ⟨q, 0, none⟩ = some (.pointer (some ⟨p, 0, none⟩)) := cell_of_row w q 0 _ _ _ h.obj
theorem WalAt.c1 {w : World} {q p : Nat} {home : Int} {dn : Bool} (h : WalAt w q p home dn) : w.cell? ⟨q, 1, none⟩ = some (.int .i64 home) := cell_of_row w q 1 _ _ _ h.obj
theorem WalAt.c2 {w : World} {q p : Nat} {home : Int} {dn : Bool} (h : WalAt w q p home dn) : w.cell? ⟨q, 2, none⟩ = some (.bool dn) := cell_of_row w q 2 _ _ _ h.obj
theorem WalAt.chg {S : Nat → Prop} {w w' : World} {q p : Nat} {home : Int} {dn : Bool} (h : WalAt w q p home dn) (hc : Chg S w w') (hq : ¬ S q) : WalAt w' q p home dn := ⟨hc.heap h.obj hq⟩
theorem WalAt.up {w w' : World} {q p : Nat} {home : Int} {dn : Bool} (h : WalAt w q p home dn) (hu : Up w w') : WalAt w' q p home dn := h.chg hu (fun h => h)
theorem WalAt.lt {w : World} {q p : Nat} {home : Int} {dn : Bool} (h : WalAt w q p home dn) : q < w.heap.size := (Array.getElem?_eq_some_iff.1 h.obj).1
/-- The wal is no block of its disk. -/
theorem WalAt.apart {w : World} {q p b : Nat} {sv : Value} {x : Dk} {kk : Nat} {home : Int} {dn : Bool} (h : WalAt w q p home dn) (hd : DskV w p b sv x kk) : ¬ OwnD p b sv q := fun ho => by
  obtain ⟨m, ss, C, h1, _⟩ := hd
  rcases ho with e | e | ho
  · have := h1.obj
    rw [← e, h.obj] at this; cases this
  · obtain ⟨es, cl, hb⟩ := h1.map.block
    rw [← e, h.obj] at hb; cases hb
  · obtain ⟨cu, fu, hh⟩ := own_type h1.row q ho
    rw [h.obj] at hh; cases hh
set_option maxRecDepth 100000 in
set_option maxHeartbeats 4000000 in
theorem whome_any (w : World) (q p : Nat) (home : Int) (dn : Bool) (h : WalAt w q p home dn) : Calls Try.prog 28 #[.pointer (some ⟨q, 0, none⟩)] w (fun e w' => e = .returned (.int .i64 home) ∧ w' = w) := by
  have c1 := h.c1
  clear h
  go_enter Try.func28, Try.ntmps28
  go_wp2_with fail
  go_ret
  exact ⟨rfl, rfl⟩
set_option maxRecDepth 100000 in
set_option maxHeartbeats 4000000 in
theorem wdown_any (w : World) (q p : Nat) (home : Int) (dn : Bool) (h : WalAt w q p home dn) : Calls Try.prog 38 #[.pointer (some ⟨q, 0, none⟩)] w (fun e w' => e = .returned (.bool dn) ∧ w' = w) := by
  have c1 := h.c2
  clear h
  go_enter Try.func38, Try.ntmps38
  go_wp2_with fail
  go_ret
  exact ⟨rfl, rfl⟩
set_option maxRecDepth 100000 in
set_option maxHeartbeats 4000000 in
theorem wsize_any (w : World) (q p b : Nat) (sv : Value) (x : Dk) (kk : Nat) (home : Int) (dn : Bool) (h : WalAt w q p home dn) (hd : DskV w p b sv x kk) : Calls Try.prog 31 #[.pointer (some ⟨q, 0, none⟩)] w (fun e w' => e = .returned (.int .i64 x.size) ∧ w' = w) := by
  have c0 := h.c0
  have HS := Lib.hid (vsize w p b sv x kk hd)
  clear h hd
  go_enter Try.func31, Try.ntmps31
  go_wp2_with fail
  refine HS.out.mono ?_
  rintro e w1 ⟨rfl, rfl⟩
  go_wp2_with fail
  go_ret
  exact ⟨rfl, rfl⟩
set_option maxRecDepth 100000 in
set_option maxHeartbeats 4000000 in
theorem place_any (w : World) (i : Int) (hi : 0 ≤ i ∧ i ≤ 1000000) : Calls Try.prog 66 #[.int .i64 i] w (fun e w' => e = .returned (.int .i64 (1 + i)) ∧ w' = w) := by
  obtain ⟨h1, h2⟩ := hi
  go_enter Try.func66, Try.ntmps66
  go_wp2_with fail
  go_ret
  exact ⟨rfl, rfl⟩
set_option maxRecDepth 100000 in
set_option maxHeartbeats 4000000 in
theorem journal_any (w : World) (q p : Nat) (home : Int) (dn : Bool) (h : WalAt w q p home dn) (hh : 0 ≤ home ∧ home ≤ 1000000) (i : Int) (hi : 0 ≤ i ∧ i ≤ 1000000) : Calls Try.prog 60 #[.pointer (some ⟨q, 0, none⟩), .int .i64 i] w (fun e w' => e = .returned (.int .i64 (1 + home + i)) ∧ w' = w) := by
  have c1 := h.c1
  obtain ⟨h1, h2⟩ := hi
  obtain ⟨h3, h4⟩ := hh
  clear h
  go_enter Try.func60, Try.ntmps60
  go_wp2_with fail
  go_ret
  exact ⟨rfl, rfl⟩
/-- What a wal's Read tells. -/
def wreadI (x : Dk) (home : Int) (dn : Bool) (i : Int) : List Int × Int := if dn = true then ([], 30) else if i < 0 ∨ home ≤ i then ([], 11) else readI x (1 + i)
def RdN (base : Nat) (r : List Int × Int) (v : Value) (W : World) : Prop := ∃ A c, v = .tuple #[.slice A r.1.length c, .int .i64 r.2] ∧ W.ownsRow base 5 1 (.slice A r.1.length c) r.1.length (u8s r.1)
theorem RdN.up {base : Nat} {r : List Int × Int} {v : Value} {W W' : World} (h : RdN base r v W) (hu : Up W W') : RdN base r v W' := by
  obtain ⟨A, c, e, h1⟩ := h
  exact ⟨A, c, e, own_chg h1 hu (fun _ _ h => h)⟩
def RwN (base : Nat) (xs : List Int) (v : Value) (W : World) : Prop := ∃ A c, v = .slice A xs.length c ∧ W.ownsRow base 5 1 (.slice A xs.length c) xs.length (u8s xs)
theorem RwN.up {base : Nat} {xs : List Int} {v : Value} {W W' : World} (h : RwN base xs v W) (hu : Up W W') : RwN base xs v W' := by
  obtain ⟨A, c, e, h1⟩ := h
  exact ⟨A, c, e, own_chg h1 hu (fun _ _ h => h)⟩
def WRd (w : World) (r : List Int × Int) (e : Ending) (w' : World) : Prop := ∃ v, e = .returned (.tuple #[v, .int .i64 r.2]) ∧ w'.ownsRow w.heap.size 5 1 v r.1.length (u8s r.1) ∧ Below w.heap.size w w'
set_option maxRecDepth 100000 in
set_option maxHeartbeats 4000000 in
theorem wread_any (w : World) (q p b : Nat) (sv : Value) (x : Dk) (kk : Nat) (home : Int) (dn : Bool) (h : WalAt w q p home dn) (hd : DskV w p b sv x kk) (hwf : Wf x kk) (hh : 0 ≤ home ∧ home ≤ 1000000) (i : Int) (hi : I64 i) : Calls Try.prog 37 #[.pointer (some ⟨q, 0, none⟩), .int .i64 i] w (WRd w (wreadI x home dn i)) := by
  have c2 := h.c2
  have c1 := h.c1
  have HQ0 : Hid (w.drew.cell? ⟨q, 0, none⟩ = some (.pointer (some ⟨p, 0, none⟩))) := Lib.hid h.c0
  have HD : Hid (DskV w.drew p b sv x kk) := Lib.hid (hd.up (Chg.refl _ w).drew)
  have HWF := Lib.hid hwf
  obtain ⟨h1, h2⟩ := hi
  obtain ⟨h3, h4⟩ := hh
  clear h hd hwf
  unfold wreadI
  cases dn with
  | true =>
    rw [if_pos rfl]
    go_enter Try.func37, Try.ntmps37
    go_wp2_with fail
    go_ret2
    exact ⟨.slice none 0 0, rfl, World.ownsRow_nil _ _ _ _, Below.refl _ _⟩
  | false =>
    rw [if_neg (by simp)]
    by_cases hneg : i < 0
    · rw [if_pos (.inl hneg)]
      go_enter Try.func37, Try.ntmps37
      go_wp2_with fail
      go_ret2
      exact ⟨.slice none 0 0, rfl, World.ownsRow_nil _ _ _ _, Below.refl _ _⟩
    · by_cases hov : home ≤ i
      · rw [if_pos (.inr hov)]
        go_enter Try.func37, Try.ntmps37
        go_wp2_with fail
        go_ret2
        exact ⟨.slice none 0 0, rfl, World.ownsRow_nil _ _ _ _, Below.refl _ _⟩
      · rw [if_neg (by omega)]
        obtain ⟨r, hr⟩ : ∃ r, readI x (1 + i) = r := ⟨_, rfl⟩
        have HR := Lib.hid hr
        rw [hr]
        clear hr
        go_enter Try.func37, Try.ntmps37
        go_wp2_with fail
        refine MT.region_mono Up [fun v _ => v = .pointer (some ⟨q, 0, none⟩),
            fun v _ => v = .pointer (some ⟨q, 0, none⟩),
            fun v _ => v = .pointer (some ⟨q, 0, none⟩),
            fun v _ => v = .pointer (some ⟨p, 0, none⟩),
            fun v _ => v = .int .i64 i,
            fun v _ => v = .int .i64 (1 + i),
            RdN w.heap.size r,
            RwN w.heap.size r.1,
            fun v _ => v = .int .i64 r.2,
            RwN w.heap.size r.1,
            fun v _ => v = .int .i64 r.2] (by kernel_rfl) (by kernel_rfl) (Chg.refl _) (fun _ _ _ => Chg.trans) (by simp) ?_ ?_ ?_
        · simp only [List.forall_mem_cons]
          exact ⟨fun _ _ _ _ _ h => h, fun _ _ _ _ _ h => h, fun _ _ _ _ _ h => h, fun _ _ _ _ _ h => h, fun _ _ _ _ _ h => h, fun _ _ _ _ _ h => h, fun _ _ _ _ hu h => RdN.up h hu, fun _ _ _ _ hu h => RwN.up h hu, fun _ _ _ _ _ h => h, fun _ _ _ _ hu h => RwN.up h hu, fun _ _ _ _ _ h => h, by simp⟩
        · refine ⟨?_, ?_, ?_, ?_, ?_, ?_, ?_, ?_, ?_, ?_, ?_, trivial⟩
          · intro ρ w1 hw h0 hc hg hf hd
            have s0 : ρ (.tmp 0) = .pointer (some ⟨q, 0, none⟩) := h0 0 (by kernel_rfl)
            refine ⟨fun _ => ?_, fun h => by cases h⟩
            clear h0 hg hd
            exact gives_move rfl ⟨Chg.refl _ _, s0⟩
          · intro ρ w1 hw h0 hc hg hf hd
            have d0 := hd ⟨0, .data⟩ (by simp) rfl _ _ _ rfl rfl rfl
            refine ⟨fun _ => ?_, fun h => by cases h⟩
            clear h0 hg hd
            clear hf hc
            refine Gives.value (w' := w1) ?_ ⟨Chg.refl _ _, rfl⟩
            go_simp
          · intro ρ w1 hw h0 hc hg hf hd
            have d1 := hd ⟨1, .data⟩ (by simp) rfl _ _ _ rfl rfl rfl
            refine ⟨fun _ => ?_, fun h => by cases h⟩
            clear h0 hg hd
            clear hf hc
            refine Gives.value (w' := w1) ?_ ⟨Chg.refl _ _, rfl⟩
            go_simp
          · intro ρ w1 hw h0 hc hg hf hd
            have d2 := hd ⟨2, .data⟩ (by simp) rfl _ _ _ rfl rfl rfl
            refine ⟨fun _ => ?_, fun h => by cases h⟩
            clear h0 hg hd
            clear hc hf
            have c1 := hw.cell HQ0.out (fun h => h)
            refine Gives.value (w' := w1) ?_ ⟨Chg.refl _ _, rfl⟩
            go_simp
          · intro ρ w1 hw h0 hc hg hf hd
            have s1 : ρ (.tmp 1) = .int .i64 i := h0 1 (by kernel_rfl)
            refine ⟨fun _ => ?_, fun h => by cases h⟩
            clear h0 hg hd
            exact gives_move rfl ⟨Chg.refl _ _, s1⟩
          · intro ρ w1 hw h0 hc hg hf hd
            have d4 := hd ⟨4, .data⟩ (by simp) rfl _ _ _ rfl rfl rfl
            refine ⟨fun _ => ?_, fun h => by cases h⟩
            clear h0 hg hd
            refine gives_call rfl hf Try.func66 rfl (by kernel_rfl) (args := #[.int .i64 i]) (by simp [d4]) ((place_any w1 i (by omega)).mono ?_)
            rintro e w2 ⟨rfl, rfl⟩
            exact ⟨_, rfl, Chg.refl _ _, rfl⟩
          · intro ρ w1 hw h0 hc hg hf hd
            have d3 := hd ⟨3, .data⟩ (by simp) rfl _ _ _ rfl rfl rfl
            have d5 := hd ⟨5, .data⟩ (by simp) rfl _ _ _ rfl rfl rfl
            refine ⟨fun _ => ?_, fun h => by cases h⟩
            clear h0 hg hd
            have hrd := vread w1 p b sv x kk (HD.out.up hw) HWF.out (1 + i) (by unfold I64; omega)
            rw [HR.out] at hrd
            refine gives_call rfl hf Try.func18 rfl (by kernel_rfl) (args := #[.pointer (some ⟨p, 0, none⟩), .int .i64 (1 + i)]) (by simp [d3, d5]) (hrd.mono ?_)
            rintro e w2 ⟨v, rfl, hv, hb⟩
            obtain ⟨A, c, rfl⟩ := own_shape hv
            exact ⟨_, rfl, up_below hb, A, c, rfl, own_base hv hw.size⟩
          · intro ρ w1 hw h0 hc hg hf hd
            have d6 := hd ⟨6, .data⟩ (by simp) rfl _ _ _ rfl rfl rfl
            refine ⟨fun _ => ?_, fun h => by cases h⟩
            clear h0 hg hd
            clear hc hf
            obtain ⟨A, c, e6, hv⟩ := d6
            refine Gives.value (w' := w1) ?_ ⟨Chg.refl _ _, A, c, rfl, hv⟩
            go_simp
          · intro ρ w1 hw h0 hc hg hf hd
            have d6 := hd ⟨6, .data⟩ (by simp) rfl _ _ _ rfl rfl rfl
            refine ⟨fun _ => ?_, fun h => by cases h⟩
            clear h0 hg hd
            clear hc hf
            obtain ⟨A, c, e6, hv⟩ := d6
            clear hv
            refine Gives.value (w' := w1) ?_ ⟨Chg.refl _ _, rfl⟩
            go_simp
          · intro ρ w1 hw h0 hc hg hf hd
            have d7 := hd ⟨7, .data⟩ (by simp) rfl _ _ _ rfl rfl rfl
            refine ⟨fun _ => ?_, fun h => by cases h⟩
            clear h0 hg hd
            clear hc hf
            obtain ⟨A, c, e7, hv⟩ := d7
            refine Gives.value (w' := w1) ?_ ⟨Chg.refl _ _, A, c, rfl, hv⟩
            go_simp
          · intro ρ w1 hw h0 hc hg hf hd
            have d8 := hd ⟨8, .data⟩ (by simp) rfl _ _ _ rfl rfl rfl
            refine ⟨fun _ => ?_, fun h => by cases h⟩
            clear h0 hg hd
            clear hf hc
            refine Gives.value (w' := w1) ?_ ⟨Chg.refl _ _, rfl⟩
            go_simp
        · intro vs w2 hw hr
          have h9 := hr 9 _ rfl
          have h10 := hr 10 _ rfl
          clear hr
          dsimp only [putsL, restL]
          simp only [Act.put, List.setIfInBounds_toArray, List.set_cons_zero, List.set_cons_succ]
          simp only [Nat.zero_add, Nat.reduceAdd]
          obtain ⟨A, c, e9, hrow⟩ := h9
          rw [e9, h10]
          have HROW := Lib.hid hrow
          have HB : Hid (Below w.heap.size w w2) := Lib.hid (((Chg.refl (fun _ => False) w).drew.trans hw).below (Nat.le_refl _) (fun _ h => h.elim))
          clear hw e9 h10 hrow
          go_wp2_with fail
          go_ret2
          exact ⟨_, rfl, HROW.out, HB.out⟩
end Go.Proofs.Ytkndnlhlglgmfaa
namespace Go.Proofs.Ytkndnlhlglgmfaa
open Go.RowKit
theorem gives_call_bound {P : Program} {o : Oper} {ρ : Operand → Value} {w : World} {Φ : Value → World → Prop} {f : FuncId} {t : Tmp} {xs : Array Operand} {ats : Array TypeId} {args bd caps : Array Value} {fn : Func} {c : Code}
    (ho : o.op = .call { callee := .value (.tmp t), args := xs, argTypes := ats }) (hf : ρ (.tmp t) = .func (.func f) bd caps) (hfn : P.funcs[f]? = some fn) (hb : fn.body = some c) (hn : (fn.name == "runtime.NumGoroutine") = false)
    (ha : bd ++ xs.map ρ ++ caps = args) (k : Calls P f args w fun e w'' => ∃ v, e = .returned v ∧ Φ v w'') : Gives P o ρ w Φ := by
  refine Gives.enter ?_ k
  simp [execOp, ho, resolve, hf, Deferred.ofValue, invoke, callFunc, hfn, hb, ← ha]
  simpa using hn
/-- One command of the disk. -/
def DPost (w : World) (p b : Nat) (sv : Value) (y : Dk) (k : Nat) (r : Int) (e : Ending) (w' : World) : Prop := e = .returned (.int .i64 r) ∧ DskV w' p b sv y k ∧ Chg (OwnD p b sv) w w'
/-- What makes a step's head. -/
structure HeadOk (w : World) (x : Dk) (v : Value) (cs : List ChI) (ds : List Value) : Prop where
  ch : ChAt w v cs ds
  n : cs.length ≤ 1000
  at_ : ∀ j, j < cs.length → I64 (cs.getD j default).at_
  one : ∀ j, j < cs.length → ∃ A n c, ds.getD j undef = .slice A n c
set_option maxRecDepth 100000 in
set_option maxHeartbeats 4000000 in
theorem mark_any (w : World) (bw bl q p b : Nat) (sv : Value) (x : Dk) (kk : Nat) (home : Int) (dn : Bool) (hw : WalAt w q p home dn) (hd : DskV w p b sv x kk) (hwf : Wf x kk) (hkk : kk ≤ 100000) (hz16 : 16 ≤ x.size) (v : Value) (cs : List ChI) (ds : List Value) (hok : HeadOk w x v cs ds) (hbw : w.cell? ⟨bw, 0, none⟩ = some (.pointer (some ⟨q, 0, none⟩))) (hbl : w.cell? ⟨bl, 0, none⟩ = some v) :
    Calls Try.prog 84 #[.pointer (some ⟨bw, 0, none⟩), .pointer (some ⟨bl, 0, none⟩)] w (DPost w p b sv (writeI x 0 (headI (atsOf cs) x.size)).1 (kk + 1) (writeI x 0 (headI (atsOf cs) x.size)).2) := by
  obtain ⟨A, c, rfl, hc1, hc2⟩ := hok.ch.shape
  have hz := hwf.size
  have HWL : Hid (WalAt w.drew q p home dn) := Lib.hid (hw.up (Chg.refl _ w).drew)
  have HQ0 : Hid (w.drew.cell? ⟨q, 0, none⟩ = some (.pointer (some ⟨p, 0, none⟩))) := Lib.hid hw.c0
  have HD : Hid (DskV w.drew p b sv x kk) := Lib.hid (hd.up (Chg.refl _ w).drew)
  have HBW : Hid (w.drew.cell? ⟨bw, 0, none⟩ = some (.pointer (some ⟨q, 0, none⟩))) := Lib.hid hbw
  have HBL : Hid (w.drew.cell? ⟨bl, 0, none⟩ = some (.slice A cs.length c)) := Lib.hid hbl
  have HOK : Hid (HeadOk w.drew x (.slice A cs.length c) cs ds) := Lib.hid ⟨hok.ch.up (Chg.refl _ w).drew, hok.n, hok.at_, hok.one⟩
  have HWF := Lib.hid hwf
  have HLEN : Hid ((headI (atsOf cs) x.size).length = x.size) := Lib.hid (pad_len _ _)
  clear hw hd hwf hok hbw hbl
  go_enter Try.func84, Try.ntmps84
  go_wp2_with fail
  refine MT.region_mono Up [fun v _ => v = .pointer (some ⟨q, 0, none⟩),
      fun v _ => v = .pointer (some ⟨q, 0, none⟩),
      fun v _ => v = .pointer (some ⟨q, 0, none⟩),
      fun v _ => v = .pointer (some ⟨p, 0, none⟩),
      fun v _ => v = .pointer (some ⟨q, 0, none⟩),
      fun v _ => v = .slice A cs.length c,
      RwN w.heap.size (headI (atsOf cs) x.size)] (by kernel_rfl) (by kernel_rfl) (Chg.refl _) (fun _ _ _ => Chg.trans) (by simp) ?_ ?_ ?_
  · simp only [List.forall_mem_cons]
    exact ⟨fun _ _ _ _ _ h => h, fun _ _ _ _ _ h => h, fun _ _ _ _ _ h => h, fun _ _ _ _ _ h => h, fun _ _ _ _ _ h => h, fun _ _ _ _ _ h => h, fun _ _ _ _ hu h => RwN.up h hu, by simp⟩
  · refine ⟨?_, ?_, ?_, ?_, ?_, ?_, ?_, trivial⟩
    · intro ρ w1 hw h0 hc hg hf hd
      have s0 : ρ (.tmp 0) = .pointer (some ⟨bw, 0, none⟩) := h0 0 (by kernel_rfl)
      refine ⟨fun _ => ?_, fun h => by cases h⟩
      clear h0 hg hd
      clear hc hf
      have c1 := hw.cell HBW.out (fun h => h)
      refine Gives.value (w' := w1) ?_ ⟨Chg.refl _ _, rfl⟩
      go_simp
    · intro ρ w1 hw h0 hc hg hf hd
      have d0 := hd ⟨0, .data⟩ (by simp) rfl _ _ _ rfl rfl rfl
      refine ⟨fun _ => ?_, fun h => by cases h⟩
      clear h0 hg hd
      clear hf hc
      refine Gives.value (w' := w1) ?_ ⟨Chg.refl _ _, rfl⟩
      go_simp
    · intro ρ w1 hw h0 hc hg hf hd
      have d1 := hd ⟨1, .data⟩ (by simp) rfl _ _ _ rfl rfl rfl
      refine ⟨fun _ => ?_, fun h => by cases h⟩
      clear h0 hg hd
      clear hf hc
      refine Gives.value (w' := w1) ?_ ⟨Chg.refl _ _, rfl⟩
      go_simp
    · intro ρ w1 hw h0 hc hg hf hd
      have d2 := hd ⟨2, .data⟩ (by simp) rfl _ _ _ rfl rfl rfl
      refine ⟨fun _ => ?_, fun h => by cases h⟩
      clear h0 hg hd
      clear hc hf
      have c1 := hw.cell HQ0.out (fun h => h)
      refine Gives.value (w' := w1) ?_ ⟨Chg.refl _ _, rfl⟩
      go_simp
    · intro ρ w1 hw h0 hc hg hf hd
      have s0 : ρ (.tmp 0) = .pointer (some ⟨bw, 0, none⟩) := h0 0 (by kernel_rfl)
      refine ⟨fun _ => ?_, fun h => by cases h⟩
      clear h0 hg hd
      clear hc hf
      have c1 := hw.cell HBW.out (fun h => h)
      refine Gives.value (w' := w1) ?_ ⟨Chg.refl _ _, rfl⟩
      go_simp
    · intro ρ w1 hw h0 hc hg hf hd
      have s1 : ρ (.tmp 1) = .pointer (some ⟨bl, 0, none⟩) := h0 1 (by kernel_rfl)
      refine ⟨fun _ => ?_, fun h => by cases h⟩
      clear h0 hg hd
      clear hc hf
      have c1 := hw.cell HBL.out (fun h => h)
      refine Gives.value (w' := w1) ?_ ⟨Chg.refl _ _, rfl⟩
      go_simp
    · intro ρ w1 hw h0 hc hg hf hd
      have d4 := hd ⟨4, .data⟩ (by simp) rfl _ _ _ rfl rfl rfl
      have d5 := hd ⟨5, .data⟩ (by simp) rfl _ _ _ rfl rfl rfl
      refine ⟨fun _ => ?_, fun h => by cases h⟩
      clear h0 hg hd
      refine gives_call rfl hf Try.func81 rfl (by kernel_rfl) (args := #[.pointer (some ⟨q, 0, none⟩), .slice A cs.length c]) (by simp [d4, d5]) ((head_any w1 q p b sv x kk home dn (HWL.out.up hw) (HD.out.up hw) hz hz16 _ cs ds (HOK.out.ch.up hw) HOK.out.n HOK.out.at_ HOK.out.one).mono ?_)
      rintro e w2 ⟨u, rfl, hu, hb⟩
      obtain ⟨A2, c2, rfl⟩ := own_shape hu
      exact ⟨_, rfl, up_below hb, A2, c2, rfl, own_base hu hw.size⟩
  · intro vs w2 hw hr
    have h3 := hr 3 _ rfl
    have h6 := hr 6 _ rfl
    clear hr
    dsimp only [putsL, restL]
    simp only [Act.put, List.setIfInBounds_toArray, List.set_cons_zero, List.set_cons_succ]
    simp only [Nat.zero_add, Nat.reduceAdd]
    obtain ⟨A2, c2, e6, hrow⟩ := h6
    rw [h3, e6]
    have HWR := Lib.hid (vwrite w2 p b sv x kk (HD.out.up hw) HWF.out hkk 0 _ _ (slb_of hrow) (by rw [HLEN.out]; omega))
    have HU : Hid (Up w w2) := Lib.hid ((Chg.refl (fun _ => False) w).drew.trans hw)
    clear hw h3 e6 hrow
    go_wp2_with fail
    refine HWR.out.mono ?_
    rintro e w3 ⟨rfl, hd3, hc3⟩
    have HD3 := Lib.hid hd3
    have HC3 := Lib.hid ((HU.out.mono (fun _ _ h => h.elim) : Chg (OwnD p b sv) w w2).trans hc3)
    clear hd3 hc3 HWR
    go_wp2_with fail
    go_ret
    exact ⟨rfl, HD3.out, HC3.out⟩
end Go.Proofs.Ytkndnlhlglgmfaa
namespace Go.Proofs.Ytkndnlhlglgmfaa
open Go.RowKit
/-- Changes are written to places, till one of them has an error. -/
def wrI (x : Dk) (T : Nat → Int) (cs : List ChI) : Nat → Dk × Int
  | 0 => (x, 0)
  | k + 1 => if (wrI x T cs k).2 = 0 then writeI (wrI x T cs k).1 (T k) (cs.getD k default).dat else wrI x T cs k
theorem wrI_wf {x : Dk} {kk : Nat} (h : Wf x kk) (T : Nat → Int) (cs : List ChI) : ∀ k, Wf (wrI x T cs k).1 (kk + k)
  | 0 => h
  | k + 1 => by
    have ih := wrI_wf h T cs k
    unfold wrI
    split
    · exact ih.write _ _
    · exact ih.mono (Nat.le_succ _)
theorem wrI_stop (x : Dk) (T : Nat → Int) (cs : List ChI) (k : Nat) (h : (wrI x T cs k).2 ≠ 0) : ∀ n, k ≤ n → wrI x T cs n = wrI x T cs k := by
  intro n
  induction n with
  | zero =>
    intro hk
    have e : k = 0 := by omega
    rw [e]
  | succ n ih =>
    intro hk
    by_cases e : k = n + 1
    · rw [e]
    · have := ih (by omega)
      show (if (wrI x T cs n).2 = 0 then _ else wrI x T cs n) = _
      rw [this, if_neg h]
/-- Changes and their bytes, apart from the disk. -/
structure ChsOk (w : World) (p b : Nat) (sv : Value) (v : Value) (cs : List ChI) (ds : List Value) : Prop where
  ch : ChAt w v cs ds
  n : cs.length ≤ 1000
  dat : ∀ j, j < cs.length → SlB w (ds.getD j undef) (cs.getD j default).dat
  len : ∀ j, j < cs.length → (cs.getD j default).dat.length ≤ 1000000
  s1 : ∀ g, Value.blk v = some g → 0 < cs.length → ¬ OwnD p b sv g
  s2 : ∀ j g, j < cs.length → Value.blk (ds.getD j undef) = some g → 0 < (cs.getD j default).dat.length → ¬ OwnD p b sv g
theorem ChsOk.chg {w w' : World} {p b : Nat} {sv v : Value} {cs : List ChI} {ds : List Value} (h : ChsOk w p b sv v cs ds) (hc : Chg (OwnD p b sv) w w') : ChsOk w' p b sv v cs ds :=
  ⟨h.ch.chg hc h.s1, h.n, fun j hj => Src.chg (h.dat j hj) hc (fun g hg h0 => h.s2 j g hj hg h0) (by decide), h.len, h.s1, h.s2⟩
set_option maxRecDepth 100000 in
set_option maxHeartbeats 4000000 in
theorem writec_any (w : World) (bl bw bt q p b : Nat) (sv : Value) (x : Dk) (kk : Nat) (home : Int) (dn : Bool) (hw : WalAt w q p home dn) (hd : DskV w p b sv x kk) (hwf : Wf x kk) (hkk : kk ≤ 90000) (v : Value) (cs : List ChI) (ds : List Value) (hok : ChsOk w p b sv v cs ds)
    (hbl : w.cell? ⟨bl, 0, none⟩ = some v) (hbw : w.cell? ⟨bw, 0, none⟩ = some (.pointer (some ⟨q, 0, none⟩))) (ft : FuncId) (bd caps : Array Value) (hbt : w.cell? ⟨bt, 0, none⟩ = some (.func (.func ft) bd caps)) (hl : ¬ OwnD p b sv bw ∧ ¬ OwnD p b sv bt)
    (fn : Func) (cd : Code) (hfn : Try.prog.funcs[ft]? = some fn ∧ fn.body = some cd ∧ (fn.name == "runtime.NumGoroutine") = false) (T : Nat → Int) (hto : ∀ k, k < cs.length → ∀ w1, Chg (OwnD p b sv) w w1 → Calls Try.prog ft (bd ++ #[.int .i64 (k : Int)] ++ caps) w1 (fun e w' => e = .returned (.int .i64 (T k)) ∧ w' = w1)) :
    Calls Try.prog 83 #[.pointer (some ⟨bl, 0, none⟩), .pointer (some ⟨bw, 0, none⟩), .pointer (some ⟨bt, 0, none⟩)] w (DPost w p b sv (wrI x T cs cs.length).1 (kk + cs.length) (wrI x T cs cs.length).2) := by
  obtain ⟨A, cc0, rfl, hc1, hc2⟩ := hok.ch.shape
  have hn1000 := hok.n
  have HOK := Lib.hid hok
  have HWL := Lib.hid hw
  have HWF := Lib.hid hwf
  have HD0 := Lib.hid hd
  have HBW0 := Lib.hid hbw
  have HBT0 := Lib.hid hbt
  have HFN := Lib.hid hfn
  have HT0 := Lib.hid hto
  have HL := Lib.hid hl
  have HAP : Hid (¬ OwnD p b sv q) := Lib.hid (hw.apart hd)
  clear hok hw hwf hd hbw hbt hfn hto hl
  go_enter Try.func83, Try.ntmps83
  go_wp2_with fail
  clear hbl
  go_loopw [9] (fun t wr => ∃ k : Nat, k ≤ cs.length ∧ t = .int .i64 k ∧ DskV wr p b sv (wrI x T cs k).1 (kk + k) ∧ (wrI x T cs k).2 = 0 ∧ Chg (OwnD p b sv) w wr) (fun t _ => cs.length - (intOf t).toNat)
  case atStart => exact ⟨0, by omega, rfl, HD0.out, rfl, Chg.refl _ _⟩
  case round =>
    rename World => wr
    obtain ⟨k, hk, rfl, hd, he0, hch⟩ := hrel
    by_cases hk2 : (k : Int) < cs.length
    · have hokr := HOK.out.chg hch
      obtain ⟨bb, off, cc, he, hcells⟩ := hokr.ch.cells (by omega)
      injection he with e1 e2 e3
      subst e1 e3
      obtain ⟨r0, r1⟩ := hcells k (by omega)
      have hdd := hokr.dat k (by omega)
      have hdl := hokr.len k (by omega)
      have hds2 := hokr.s2 k
      have hwfk := wrI_wf HWF.out T cs k
      have hsuc : wrI x T cs (k + 1) = writeI (wrI x T cs k).1 (T k) (cs.getD k default).dat := by
        show (if _ then _ else _) = _
        rw [if_pos he0]
      obtain ⟨d, hde⟩ : ∃ d, ds.getD k undef = d := ⟨_, rfl⟩
      obtain ⟨c, hce⟩ : ∃ c, cs.getD k default = c := ⟨_, rfl⟩
      rw [hde] at r1 hdd
      rw [hce] at r0 hdd hdl hsuc
      obtain ⟨A1, c1, rfl, _, _⟩ := hdd.shape
      obtain ⟨y, hy⟩ : ∃ y, (wrI x T cs k).1 = y := ⟨_, rfl⟩
      rw [hy] at hd hwfk hsuc
      have hu : Up wr (wr.alloc (.cells #[.int .i64 c.at_, .slice A1 c.dat.length c1] 89)) := (Chg.refl _ wr).alloc _
      obtain ⟨W5, hW5⟩ : ∃ W5, W5 = wr.alloc (.cells #[.int .i64 c.at_, .slice A1 c.dat.length c1] 89) := ⟨_, rfl⟩
      have hcell5 := heap_alloc_last wr (.cells #[.int .i64 c.at_, .slice A1 c.dat.length c1] 89)
      obtain ⟨g5, hg5⟩ : ∃ g5, g5 = wr.heap.size := ⟨_, rfl⟩
      rw [← hW5] at hu hcell5
      rw [← hg5] at hcell5
      have hch5 := hch.then hu (fun _ h => h.elim)
      have HDX : Hid (DskV W5.drew p b sv y (kk + k)) := Lib.hid ((hd.up hu).up (Chg.refl _ _).drew)
      have HDD : Hid (SlB W5.drew (.slice A1 c.dat.length c1) c.dat) := Lib.hid ((Src.chg hdd hu (fun _ _ _ h => h) (by decide)).chg (Chg.refl (fun _ => False) W5).drew (fun _ _ _ h => h) (by decide))
      have HB3 : Hid (W5.drew.cell? ⟨g5, 1, none⟩ = some (.slice A1 c.dat.length c1)) := Lib.hid (cell_of_row W5 g5 1 _ _ _ hcell5)
      have HBW : Hid (W5.drew.cell? ⟨bw, 0, none⟩ = some (.pointer (some ⟨q, 0, none⟩))) := Lib.hid (hch5.cell HBW0.out HL.out.1)
      have HBT : Hid (W5.drew.cell? ⟨bt, 0, none⟩ = some (.func (.func ft) bd caps)) := Lib.hid (hch5.cell HBT0.out HL.out.2)
      have HQ0 : Hid (W5.drew.cell? ⟨q, 0, none⟩ = some (.pointer (some ⟨p, 0, none⟩))) := Lib.hid (hch5.cell HWL.out.c0 HAP.out)
      have HTO : Hid (∀ w1, Up W5.drew w1 → Calls Try.prog ft (bd ++ #[.int .i64 (k : Int)] ++ caps) w1 (fun e w' => e = .returned (.int .i64 (T k)) ∧ w' = w1)) := Lib.hid (fun w1 hu1 => HT0.out k (by omega) w1 ((hch5.drew).then hu1 (fun _ h => h.elim)))
      have HC5 : Hid (Chg (OwnD p b sv) w W5.drew) := Lib.hid hch5.drew
      have HWFK := Lib.hid hwfk
      have HSUC := Lib.hid hsuc
      clear hd he0 hch hokr hcells hdd hds2 hwfk hsuc hde hce hy hu hcell5 hch5
      go_wp2_with fail
      rw [← hW5, ← hg5]
      clear hW5 hg5 r0 r1
      refine MT.region_mono Up [fun v _ => v = .pointer (some ⟨q, 0, none⟩),
          fun v _ => v = .pointer (some ⟨q, 0, none⟩),
          fun v _ => v = .pointer (some ⟨q, 0, none⟩),
          fun v _ => v = .pointer (some ⟨p, 0, none⟩),
          fun v _ => v = .func (.func ft) bd caps,
          fun v _ => v = .int .i64 (k : Int),
          fun v _ => v = .int .i64 (T k),
          fun v _ => v = .pointer (some ⟨g5, 1, none⟩),
          fun v _ => v = .slice A1 c.dat.length c1] (by kernel_rfl) (by kernel_rfl) (Chg.refl _) (fun _ _ _ => Chg.trans) (by simp) ?_ ?_ ?_
      · simp only [List.forall_mem_cons]
        exact ⟨fun _ _ _ _ _ h => h, fun _ _ _ _ _ h => h, fun _ _ _ _ _ h => h, fun _ _ _ _ _ h => h, fun _ _ _ _ _ h => h, fun _ _ _ _ _ h => h, fun _ _ _ _ _ h => h, fun _ _ _ _ _ h => h, fun _ _ _ _ _ h => h, by simp⟩
      · refine ⟨?_, ?_, ?_, ?_, ?_, ?_, ?_, ?_, ?_, trivial⟩
        · intro ρ w1 hw h0 hc hg hf hd
          have s1 : ρ (.tmp 1) = .pointer (some ⟨bw, 0, none⟩) := h0 1 (by kernel_rfl)
          refine ⟨fun _ => ?_, fun h => by cases h⟩
          clear h0 hg hd
          clear hc hf
          have c1 := hw.cell HBW.out (fun h => h)
          refine Gives.value (w' := w1) ?_ ⟨Chg.refl _ _, rfl⟩
          go_simp
        · intro ρ w1 hw h0 hc hg hf hd
          have d0 := hd ⟨0, .data⟩ (by simp) rfl _ _ _ rfl rfl rfl
          refine ⟨fun _ => ?_, fun h => by cases h⟩
          clear h0 hg hd
          clear hf hc
          refine Gives.value (w' := w1) ?_ ⟨Chg.refl _ _, rfl⟩
          go_simp
        · intro ρ w1 hw h0 hc hg hf hd
          have d1 := hd ⟨1, .data⟩ (by simp) rfl _ _ _ rfl rfl rfl
          refine ⟨fun _ => ?_, fun h => by cases h⟩
          clear h0 hg hd
          clear hf hc
          refine Gives.value (w' := w1) ?_ ⟨Chg.refl _ _, rfl⟩
          go_simp
        · intro ρ w1 hw h0 hc hg hf hd
          have d2 := hd ⟨2, .data⟩ (by simp) rfl _ _ _ rfl rfl rfl
          refine ⟨fun _ => ?_, fun h => by cases h⟩
          clear h0 hg hd
          clear hc hf
          have c1 := hw.cell HQ0.out (fun h => h)
          refine Gives.value (w' := w1) ?_ ⟨Chg.refl _ _, rfl⟩
          go_simp
        · intro ρ w1 hw h0 hc hg hf hd
          have s2 : ρ (.tmp 2) = .pointer (some ⟨bt, 0, none⟩) := h0 2 (by kernel_rfl)
          refine ⟨fun _ => ?_, fun h => by cases h⟩
          clear h0 hg hd
          clear hc hf
          have c1 := hw.cell HBT.out (fun h => h)
          refine Gives.value (w' := w1) ?_ ⟨Chg.refl _ _, rfl⟩
          go_simp
        · intro ρ w1 hw h0 hc hg hf hd
          have s4 : ρ (.tmp 4) = .int .i64 (k : Int) := h0 4 (by kernel_rfl)
          refine ⟨fun _ => ?_, fun h => by cases h⟩
          clear h0 hg hd
          exact gives_move rfl ⟨Chg.refl _ _, s4⟩
        · intro ρ w1 hw h0 hc hg hf hd
          have d4 := hd ⟨4, .data⟩ (by simp) rfl _ _ _ rfl rfl rfl
          have d5 := hd ⟨5, .data⟩ (by simp) rfl _ _ _ rfl rfl rfl
          refine ⟨fun _ => ?_, fun h => by cases h⟩
          clear h0 hg hd
          have hq := HTO.out w1 hw
          refine gives_call_bound (t := 18) (f := ft) (bd := bd) (caps := caps) (fn := fn) (c := cd) (args := bd ++ #[.int .i64 (k : Int)] ++ caps) rfl ?_ ?_ ?_ ?_ ?_ ?_
          · exact d4
          · exact HFN.out.1
          · exact HFN.out.2.1
          · exact HFN.out.2.2
          · rw [show (#[Operand.tmp 19] : Array Operand).map ρ = #[ρ (.tmp 19)] from by simp, d5]
          · refine hq.mono ?_
            rintro e w2 ⟨rfl, rfl⟩
            exact ⟨_, rfl, Chg.refl _ _, rfl⟩
        · intro ρ w1 hw h0 hc hg hf hd
          have s5 : ρ (.tmp 5) = .pointer (some ⟨g5, 0, none⟩) := h0 5 (by kernel_rfl)
          refine ⟨fun _ => ?_, fun h => by cases h⟩
          clear h0 hg hd
          clear hf hc
          refine Gives.value (w' := w1) ?_ ⟨Chg.refl _ _, rfl⟩
          go_simp
        · intro ρ w1 hw h0 hc hg hf hd
          have d7 := hd ⟨7, .data⟩ (by simp) rfl _ _ _ rfl rfl rfl
          refine ⟨fun _ => ?_, fun h => by cases h⟩
          clear h0 hg hd
          clear hc hf
          have c1 := hw.cell HB3.out (fun h => h)
          refine Gives.value (w' := w1) ?_ ⟨Chg.refl _ _, rfl⟩
          go_simp
      · intro vs w2 hw hr
        have h3 := hr 3 _ rfl
        have h6 := hr 6 _ rfl
        have h8 := hr 8 _ rfl
        clear hr
        dsimp only [putsL, restL]
        simp only [Act.put, List.setIfInBounds_toArray, List.set_cons_zero, List.set_cons_succ]
        simp only [Nat.zero_add, Nat.reduceAdd]
        rw [h3, h6, h8]
        have HWR := Lib.hid (vwrite w2 p b sv y (kk + k) (HDX.out.up hw) HWFK.out (by omega) (T k) _ _ (Src.chg HDD.out hw (fun _ _ _ h => h) (by decide)) hdl)
        have HC2 := Lib.hid (HC5.out.then hw (fun _ h => h.elim))
        obtain ⟨r, hr⟩ : ∃ r, (writeI y (T k) c.dat).2 = r := ⟨_, rfl⟩
        rw [hr] at HWR
        have HRR := Lib.hid hr
        clear hw h3 h6 h8 hr
        go_wp2_with fail
        refine HWR.out.mono ?_
        rintro e w3 ⟨rfl, hd3, hc3⟩
        rw [← HSUC.out] at hd3
        have HD3 := Lib.hid hd3
        have HC3 := Lib.hid (HC2.out.trans hc3)
        clear hd3 hc3 HWR
        by_cases hr0 : r = 0
        · subst hr0
          go_wp2_with fail
          exact ⟨⟨k + 1, by omega, by go_num, HD3.out, by rw [HSUC.out]; exact HRR.out, HC3.out⟩, by simp [intOf]; omega⟩
        · have hr0' : (r != 0) = true := by rw [bne_iff_ne]; exact hr0
          have HST : Hid (wrI x T cs cs.length = wrI x T cs (k + 1)) := Lib.hid (wrI_stop x T cs (k + 1) (by rw [HSUC.out, HRR.out]; exact hr0) cs.length (by omega))
          go_wp2_with fail
          go_ret
          rw [HST.out]
          exact ⟨by rw [HSUC.out, HRR.out]; rfl, HD3.out.le (by omega), HC3.out⟩
    · obtain rfl : k = cs.length := by omega
      have HD3 := Lib.hid hd
      have HC3 := Lib.hid hch
      have HE0 := Lib.hid he0
      clear hd hch he0
      go_wp2_with fail
      go_ret
      exact ⟨by rw [HE0.out]; rfl, HD3.out, HC3.out⟩
end Go.Proofs.Ytkndnlhlglgmfaa
namespace Go.Proofs.Ytkndnlhlglgmfaa
open Go.RowKit
/-- What 'write' lays. -/
def writeW (w : World) (q : Nat) (v fv : Value) : World := ((w.alloc (.cells #[.pointer (some ⟨q, 0, none⟩)] 46)).alloc (.cells #[v] 52)).alloc (.cells #[fv] 49)
def markW (w : World) (q : Nat) (v : Value) : World := (w.alloc (.cells #[.pointer (some ⟨q, 0, none⟩)] 46)).alloc (.cells #[v] 52)
theorem writeW_up (w : World) (q : Nat) (v fv : Value) : Up w (writeW w q v fv) := (((Chg.refl _ w).alloc _).alloc _).alloc _
theorem markW_up (w : World) (q : Nat) (v : Value) : Up w (markW w q v) := ((Chg.refl _ w).alloc _).alloc _
theorem writeW_cells (w : World) (q : Nat) (v fv : Value) : (writeW w q v fv).cell? ⟨w.heap.size, 0, none⟩ = some (.pointer (some ⟨q, 0, none⟩)) ∧ (writeW w q v fv).cell? ⟨w.heap.size + 1, 0, none⟩ = some v ∧ (writeW w q v fv).cell? ⟨w.heap.size + 2, 0, none⟩ = some fv := by
  obtain ⟨W1, hW1⟩ : ∃ W1, W1 = w.alloc (.cells #[.pointer (some ⟨q, 0, none⟩)] 46) := ⟨_, rfl⟩
  obtain ⟨W2, hW2⟩ : ∃ W2, W2 = W1.alloc (.cells #[v] 52) := ⟨_, rfl⟩
  have e : writeW w q v fv = W2.alloc (.cells #[fv] 49) := by rw [hW2, hW1]; rfl
  have s1 : W1.heap.size = w.heap.size + 1 := by rw [hW1]; simp
  have s2 : W2.heap.size = w.heap.size + 2 := by rw [hW2]; simp [s1]
  have h1 : W1.heap[w.heap.size]? = some (.cells #[.pointer (some ⟨q, 0, none⟩)] 46 (0, 0)) := by rw [hW1]; exact heap_alloc_last w _
  have h2 : W2.heap[W1.heap.size]? = some (.cells #[v] 52 (0, 0)) := by rw [hW2]; exact heap_alloc_last W1 _
  have u2 : Up W1 W2 := by rw [hW2]; exact (Chg.refl _ W1).alloc _
  have u3 : Up W2 (W2.alloc (.cells #[fv] 49)) := (Chg.refl _ W2).alloc _
  rw [e]
  refine ⟨cell_of_row _ _ 0 _ _ _ (u3.heap (u2.heap h1 (fun h => h)) (fun h => h)), ?_, ?_⟩
  · rw [← s1]; exact cell_of_row _ _ 0 _ _ _ (u3.heap h2 (fun h => h))
  · rw [← s2]; exact cell_of_row _ _ 0 _ _ _ (heap_alloc_last W2 _)
theorem markW_cells (w : World) (q : Nat) (v : Value) : (markW w q v).cell? ⟨w.heap.size, 0, none⟩ = some (.pointer (some ⟨q, 0, none⟩)) ∧ (markW w q v).cell? ⟨w.heap.size + 1, 0, none⟩ = some v := by
  obtain ⟨W1, hW1⟩ : ∃ W1, W1 = w.alloc (.cells #[.pointer (some ⟨q, 0, none⟩)] 46) := ⟨_, rfl⟩
  have e : markW w q v = W1.alloc (.cells #[v] 52) := by rw [hW1]; rfl
  have s1 : W1.heap.size = w.heap.size + 1 := by rw [hW1]; simp
  have h1 : W1.heap[w.heap.size]? = some (.cells #[.pointer (some ⟨q, 0, none⟩)] 46 (0, 0)) := by rw [hW1]; exact heap_alloc_last w _
  have u2 : Up W1 (W1.alloc (.cells #[v] 52)) := (Chg.refl _ W1).alloc _
  rw [e]
  refine ⟨cell_of_row _ _ 0 _ _ _ (u2.heap h1 (fun h => h)), ?_⟩
  rw [← s1]; exact cell_of_row _ _ 0 _ _ _ (heap_alloc_last W1 _)
set_option maxRecDepth 100000 in
set_option maxHeartbeats 4000000 in
theorem mkwrite_any (w : World) (q : Nat) (A : Option Addr) (n c : Nat) (ft : FuncId) (bd caps : Array Value) : Calls Try.prog 64 #[.pointer (some ⟨q, 0, none⟩), .slice A n c, .func (.func ft) bd caps] w (fun e w' => e = .returned (.func (.func 83) #[] #[.pointer (some ⟨w.heap.size + 1, 0, none⟩), .pointer (some ⟨w.heap.size, 0, none⟩), .pointer (some ⟨w.heap.size + 2, 0, none⟩)]) ∧ w' = writeW w q (.slice A n c) (.func (.func ft) bd caps)) := by
  go_enter Try.func64, Try.ntmps64
  go_wp2_with fail
  go_ret
  exact ⟨rfl, rfl⟩
set_option maxRecDepth 100000 in
set_option maxHeartbeats 4000000 in
theorem mkmark_any (w : World) (q : Nat) (A : Option Addr) (n c : Nat) : Calls Try.prog 65 #[.pointer (some ⟨q, 0, none⟩), .slice A n c] w (fun e w' => e = .returned (.func (.func 84) #[] #[.pointer (some ⟨w.heap.size, 0, none⟩), .pointer (some ⟨w.heap.size + 1, 0, none⟩)]) ∧ w' = markW w q (.slice A n c)) := by
  go_enter Try.func65, Try.ntmps65
  go_wp2_with fail
  go_ret
  exact ⟨rfl, rfl⟩
set_option maxRecDepth 100000 in
set_option maxHeartbeats 4000000 in
theorem apply1_any (w : World) (bl : Nat) (v : Value) (cs : List ChI) (ds : List Value) (h : ChAt w v cs ds) (hbl : w.cell? ⟨bl, 0, none⟩ = some v) (k : Nat) (hk : k < cs.length) (ha : 0 ≤ (cs.getD k default).at_ ∧ (cs.getD k default).at_ ≤ 1000000) : Calls Try.prog 82 #[.int .i64 k, .pointer (some ⟨bl, 0, none⟩)] w (fun e w' => e = .returned (.int .i64 (1 + (cs.getD k default).at_)) ∧ w' = w) := by
  obtain ⟨b, off, c, rfl, hcells⟩ := h.cells (by omega)
  obtain ⟨A0, c0, he, hc1, hc2⟩ := h.shape
  injection he with e1 e2 e3
  subst e3
  obtain ⟨r0, _⟩ := hcells k hk
  have hk2 : (k : Int) < cs.length := by omega
  obtain ⟨a, hae⟩ : ∃ a, (cs.getD k default).at_ = a := ⟨_, rfl⟩
  rw [hae] at r0 ha ⊢
  have HPL := Lib.hid (place_any w a ha)
  clear h hcells hae e1 e2
  go_enter Try.func82, Try.ntmps82
  go_wp2_with fail
  refine HPL.out.mono ?_
  rintro e w1 ⟨rfl, rfl⟩
  go_wp2_with fail
  go_ret
  exact ⟨rfl, rfl⟩
end Go.Proofs.Ytkndnlhlglgmfaa
namespace Go.Proofs.Ytkndnlhlglgmfaa
open Go.RowKit
theorem wpList_gives {P : Program} {ops : Array Oper} {rest : List Oper} {o : Oper} {a : Act} {w : World} {Q : Exit → Act → World → Prop} {Φ : Value → World → Prop} (hg : o.guard = none) (h : Gives P o a.eval w Φ) (k : ∀ v w', Φ v w' → wpList P ops Q rest (a.put o.dst v) w') : wpList P ops Q (o :: rest) a w :=
  wpList_plain hg fun _ hK => wp_of_gives h (fun v w' hv => hK _ _ (k v w' hv))
/-- A function value. -/
structure FnI where
  id : FuncId
  bd : Array Value
  caps : Array Value
def fnV (f : FnI) : Value := .func (.func f.id) f.bd f.caps
instance : Inhabited FnI := ⟨⟨0, #[], #[]⟩⟩
def OkFn (f : FuncId) : Prop := ∃ fn cd, Try.prog.funcs[f]? = some fn ∧ fn.body = some cd ∧ (fn.name == "runtime.NumGoroutine") = false
/-- What a step does: it hands on, or has an error. -/
def StepF (Inv : Nat → World → Prop) (Err : Nat → Int → World → Prop) (j : Nat) (f : FnI) (w : World) : Prop := OkFn f.id ∧ Calls Try.prog f.id (f.bd ++ f.caps) w (fun e w' => ∃ r, e = .returned (.int .i64 r) ∧ ((r = 0 ∧ Inv (j + 1) w') ∨ (r ≠ 0 ∧ Err j r w')))
def StepsPost (q : Nat) (dn : Bool) (n : Nat) (Inv : Nat → World → Prop) (Err : Nat → Int → World → Prop) (e : Ending) (w' : World) : Prop := (e = .returned (.int .i64 0) ∧ Inv n w') ∨ ∃ j r w1, r ≠ 0 ∧ Err j r w1 ∧ e = .returned (.int .i64 r) ∧ w' = w1.setCell ⟨q, 2, none⟩ (.bool (dn || r == 30))
theorem gives_step {Inv : Nat → World → Prop} {Err : Nat → Int → World → Prop} {j : Nat} {f : FnI} {w : World} (h : StepF Inv Err j f w) (o : Oper) (ρ : Operand → Value) (ho : o.op = .call { callee := .value (.tmp 14), args := #[], argTypes := #[] }) (hf : ρ (.tmp 14) = fnV f) :
    Gives Try.prog o ρ w (fun v w' => ∃ r, v = .int .i64 r ∧ ((r = 0 ∧ Inv (j + 1) w') ∨ (r ≠ 0 ∧ Err j r w'))) := by
  obtain ⟨⟨fn, cd, h1, h2, h3⟩, hc⟩ := h
  refine gives_call_bound (t := 14) (f := f.id) (bd := f.bd) (caps := f.caps) (fn := fn) (c := cd) (args := f.bd ++ f.caps) ho ?_ ?_ ?_ ?_ ?_ ?_
  · exact hf
  · exact h1
  · exact h2
  · exact h3
  · simp
  · refine hc.mono ?_
    rintro e w' ⟨r, rfl, hr⟩
    exact ⟨_, rfl, r, rfl, hr⟩
set_option maxRecDepth 100000 in
set_option maxHeartbeats 4000000 in
theorem steps_any (w : World) (q p : Nat) (home : Int) (dn : Bool) (v : Value) (fs : List FnI) (hn : fs.length ≤ 100) (Inv : Nat → World → Prop) (Err : Nat → Int → World → Prop) (h0 : Inv 0 w)
    (hrow : ∀ j w1, Inv j w1 → Src w1 v 1 fs.length (fs.map fnV)) (hwal : ∀ j r w1, Err j r w1 → WalAt w1 q p home dn) (hstep : ∀ j, j < fs.length → ∀ w1, Inv j w1 → StepF Inv Err j (fs.getD j default) w1) :
    Calls Try.prog 63 #[.pointer (some ⟨q, 0, none⟩), v] w (StepsPost q dn fs.length Inv Err) := by
  have hsh : ∃ A c, v = .slice A fs.length c ∧ fs.length ≤ c := by
    rcases hrow 0 w h0 with ⟨rfl, h, _⟩ | ⟨a, c, rfl, _, h1, _, _⟩
    · rw [h]; exact ⟨none, 0, rfl, Nat.le_refl _⟩
    · exact ⟨_, c, rfl, h1⟩
  obtain ⟨A, c, rfl, hc1⟩ := hsh
  have HROW := Lib.hid hrow
  have HWAL := Lib.hid hwal
  have HSTEP := Lib.hid hstep
  have H0 := Lib.hid h0
  clear hrow hwal hstep h0
  cases dn
  all_goals
    go_enter Try.func63, Try.ntmps63
    go_wp2_with fail
    go_loopw [10] (fun t wr => ∃ j : Nat, j ≤ fs.length ∧ t = .int .i64 j ∧ Inv j wr) (fun t _ => fs.length - (intOf t).toNat)
    case atStart => exact ⟨0, by omega, rfl, H0.out⟩
    case round =>
      rename World => wr
      obtain ⟨j, hj, rfl, hinv⟩ := hrel
      by_cases hj2 : (j : Int) < fs.length
      · obtain ⟨bb, off, cc, he, _, _, hcells⟩ := (HROW.out j wr hinv).form (by simp; omega)
        injection he with e1 e2 e3
        subst e1 e3
        have hce := hcells j (fnV (fs.getD j default)) (by simp [List.getElem?_eq_getElem (show j < fs.length by omega), List.getD_eq_getElem?_getD])
        have hst := HSTEP.out j (by omega) wr hinv
        obtain ⟨f, hf⟩ : ∃ f, fs.getD j default = f := ⟨_, rfl⟩
        rw [hf] at hce hst
        have HG := Lib.hid (fun (o : Oper) (ρ : Operand → Value) (ho : o.op = .call { callee := .value (.tmp 14), args := #[], argTypes := #[] }) (hf : ρ (.tmp 14) = fnV f) => gives_step hst o ρ ho hf)
        unfold fnV at hce
        clear hinv hcells hst hf e2
        go_wp2_with (refine wpList_gives rfl (HG.out _ _ rfl rfl) ?_; rintro v5 w5 ⟨r, rfl, hr⟩; rcases hr with ⟨rfl, hi⟩ | ⟨hr0, he⟩; rotate_left; have hw := HWAL.out j r w5 he; have c2 := hw.c2; have f2 := frozen_of_row w5 q 2 _ _ hw.obj; have hr0' : (r != 0) = true := (by rw [bne_iff_ne]; exact hr0); clear hw; rotate_left)
        · exact ⟨⟨j + 1, by omega, by go_num, hi⟩, by simp [intOf]; omega⟩
        · go_ret
          exact .inr ⟨j, r, w5, hr0, he, rfl, by simp⟩
      · obtain rfl : j = fs.length := by omega
        have HINV := Lib.hid hinv
        clear hinv
        go_wp2_with fail
        go_ret
        exact .inl ⟨rfl, HINV.out⟩
end Go.Proofs.Ytkndnlhlglgmfaa
