/-
  Bytes that are put together: Out's Int and All, walked. Bytes that are read: In's take, number, Int, Count, Bad, walked. Bytes that are read: In's take, Int, Count, Bad, New, walked. A wal in memory; changes; the head of changes, walked. How many noughts; a wal's room, walked. What a head names: parse, walked.
-/
import Derived.Test.YtkndnlhlglgmfaaE25
import Derived.Test.YtkndnlhlglgmfaaM1
import Derived.Laws.BitsLemmas
import Derived.Laws.CopyOwn
import Derived.Shelf.Bytes.SlCountOne
import Derived.Laws.Externs
import Derived.Great.BuildSlice
namespace Go.Proofs.Ytkndnlhlglgmfaa
open Go.RowKit
/-- The bytes of a number, the highest first. -/
def be8 (n : Int) (k : Nat) : List Int := (List.range k).map fun (j : Nat) => n / 2 ^ (8 * (7 - (j : Int))).toNat % 256
theorem be8_succ (n : Int) (k : Nat) : be8 n (k + 1) = be8 n k ++ [n / 2 ^ (8 * (7 - (k : Int))).toNat % 256] := by simp [be8, List.range_succ]
theorem be8_len (n : Int) (k : Nat) : (be8 n k).length = k := by simp [be8]
theorem be8_bytes (n : Int) (k : Nat) : Bytes (be8 n k) := fun j => by
  by_cases h : j < k
  · simp only [be8, List.getD_eq_getElem?_getD, List.getElem?_map, List.getElem?_range h, Option.map_some, Option.getD_some]
    omega
  · rw [List.getD_eq_getElem?_getD, List.getElem?_eq_none (by rw [be8_len]; omega)]; simp
theorem wrap_in {z : Int} (h1 : -9223372036854775808 ≤ z) (h2 : z ≤ 9223372036854775807) : IntKind.i64.wrap z = z := by
  simp only [IntKind.wrap, IntKind.bits, IntKind.signed]
  simp
  omega
theorem wrap_u8 (z : Int) : IntKind.u8.wrap z = z % 256 := by
  simp [IntKind.wrap, IntKind.bits, IntKind.signed]
/-- Bytes that are being put together. -/
structure OutAt (w : World) (p : Nat) (sv : Value) (xs : List Int) : Prop where
  obj : w.heap[p]? = some (.cells #[sv] 124 (0, 0))
  row : w.ownsRow 0 5 1 sv xs.length (u8s xs)
def OwnO (p : Nat) (sv : Value) (k : Nat) : Prop := k = p ∨ sv.ownBlock = some k
section
variable {w w' : World} {p : Nat} {sv : Value} {xs : List Int}
theorem OutAt.chg {S : Nat → Prop} (h : OutAt w p sv xs) (hc : Chg S w w') (hS : ∀ j, OwnO p sv j → ¬ S j) : OutAt w' p sv xs :=
  ⟨hc.heap h.obj (hS p (.inl rfl)), own_chg h.row hc (fun j hj => hS j (.inr hj))⟩
theorem OutAt.up (h : OutAt w p sv xs) (hu : Up w w') : OutAt w' p sv xs := h.chg hu (fun _ _ h => h)
theorem OutAt.lt (h : OutAt w p sv xs) (j : Nat) (hj : OwnO p sv j) : j < w.heap.size := by
  rcases hj with rfl | hj
  · exact (Array.getElem?_eq_some_iff.1 h.obj).1
  · obtain ⟨cu, fu, hg⟩ := own_type h.row j hj
    exact (Array.getElem?_eq_some_iff.1 hg).1
end
def OneB (z : Int) (base : Nat) (v : Value) (W : World) : Prop := ∃ g, v = .slice (some ⟨g, 0, none⟩) 1 1 ∧ base ≤ g ∧ W.heap[g]? = some (.cells #[.int .u8 z] 5 (0, 0))
theorem OneB.up {z : Int} {base : Nat} {v : Value} {W W' : World} (h : OneB z base v W) (hu : Up W W') : OneB z base v W' := by
  obtain ⟨g, e, h0, h1⟩ := h
  exact ⟨g, e, h0, hu.heap h1 (fun h => h)⟩
theorem OneB.src {z : Int} {base : Nat} {v : Value} {W : World} (h : OneB z base v W) : Src W v 1 1 [.int .u8 z] := by
  obtain ⟨g, rfl, h0, h1⟩ := h
  exact .inr ⟨⟨g, 0, none⟩, 1, rfl, rfl, Nat.le_refl _, by omega, fun j x hx => by
    rw [addr_add, cell_of_row _ _ _ _ _ _ h1, Nat.zero_add]
    simpa using hx⟩
/-- What Int leaves. -/
def OPost (w : World) (p : Nat) (sv : Value) (ys : List Int) (e : Ending) (w' : World) : Prop := (∃ u, e = .returned u) ∧ ∃ sv', OutAt w' p sv' ys ∧ (∀ j, OwnO p sv' j → OwnO p sv j ∨ w.heap.size ≤ j) ∧ Chg (OwnO p sv) w w'
set_option maxRecDepth 100000 in
set_option maxHeartbeats 4000000 in
theorem onum_any (w : World) (p : Nat) (sv : Value) (xs : List Int) (h : OutAt w p sv xs) (hx : xs.length ≤ 100000) (n : Int) (hn : I64 n) : Calls Try.prog 106 #[.pointer (some ⟨p, 0, none⟩), .int .i64 n, .int .i64 8] w (OPost w p sv (xs ++ be8 n 8)) := by
  have H0 := Lib.hid h
  obtain ⟨hn1, hn2⟩ := hn
  clear h
  go_enter Try.func106, Try.ntmps106
  go_wp2_with fail
  go_loopw [8] (fun t wr => ∃ (j : Nat) (sv' : Value), j ≤ 8 ∧ t = .int .i64 j ∧ OutAt wr p sv' (xs ++ be8 n j) ∧ (∀ k, OwnO p sv' k → OwnO p sv k ∨ w.heap.size ≤ k) ∧ Chg (OwnO p sv) w wr) (fun t _ => 8 - (intOf t).toNat)
  case atStart => exact ⟨0, sv, by omega, rfl, by simpa [be8] using H0.out, fun k hk => .inl hk, Chg.refl _ _⟩
  case round =>
    rename World => wr
    obtain ⟨j, sv', hj, rfl, ho, hown, hch⟩ := hrel
    by_cases hj2 : (j : Int) < 8
    · obtain ⟨ys, hys⟩ : ∃ ys, xs ++ be8 n j = ys := ⟨_, rfl⟩
      have hyl : ys.length ≤ 200000 := by rw [← hys]; simp [be8_len]; omega
      rw [hys] at ho
      obtain ⟨A0, c0, rfl⟩ := own_shape ho.row
      have HLV : Hid (wr.drew.cell? ⟨p, 0, none⟩ = some (.slice A0 ys.length c0)) := Lib.hid (cell_of_row wr p 0 _ _ _ ho.obj)
      have HO := Lib.hid ho
      have HOWN := Lib.hid hown
      have HCH := Lib.hid hch
      have HYS := Lib.hid hys
      clear ho hown hch hys
      go_wp2_with fail
      refine MT.region_monoF Up [fun v _ => v = .pointer (some ⟨p, 0, none⟩),
          fun v _ => v = .pointer (some ⟨p, 0, none⟩),
          fun v _ => v = .pointer (some ⟨p, 0, none⟩),
          fun v _ => v = .pointer (some ⟨p, 0, none⟩),
          fun v _ => v = .slice A0 ys.length c0,
          fun v _ => v = .int .i64 n,
          fun v _ => v = .int .i64 8,
          fun v _ => v = .int .i64 7,
          fun v _ => v = .int .i64 (j : Int),
          fun v _ => v = .int .i64 (7 - (j : Int)),
          fun v _ => v = .int .i64 (8 * (7 - (j : Int))),
          fun v _ => v = .int .i64 (n / 2 ^ (8 * (7 - (j : Int))).toNat),
          fun v _ => v = .int .u8 (n / 2 ^ (8 * (7 - (j : Int))).toNat % 256),
          OneB (n / 2 ^ (8 * (7 - (j : Int))).toNat % 256) wr.heap.size] (by kernel_rfl) (by kernel_rfl) (by simp) _ (.pointer (some ⟨p, 0, none⟩)) rfl (by kernel_rfl) (by kernel_rfl) (fun _ _ _ h => h) (.inl ⟨rfl, fun _ => by simp [execOp, Act.eval]⟩) (fun r hr => by injection hr with hr; subst hr; rfl) (Chg.refl _) (fun _ _ _ => Chg.trans) (by simp) ?_ ?_ ?_
      · simp only [List.forall_mem_cons]
        exact ⟨fun _ _ _ _ _ h => h, fun _ _ _ _ _ h => h, fun _ _ _ _ _ h => h, fun _ _ _ _ _ h => h, fun _ _ _ _ _ h => h, fun _ _ _ _ _ h => h, fun _ _ _ _ _ h => h, fun _ _ _ _ _ h => h, fun _ _ _ _ _ h => h, fun _ _ _ _ _ h => h, fun _ _ _ _ _ h => h, fun _ _ _ _ _ h => h, fun _ _ _ _ _ h => h, fun _ _ _ _ hu h => OneB.up h hu, by simp⟩
      · refine ⟨?_, ?_, ?_, ?_, ?_, ?_, ?_, ?_, ?_, ?_, ?_, ?_, ?_, ?_, trivial⟩
        · intro ρ w1 hw h0 hc hg hf hd
          have s0 : ρ (.tmp 0) = .pointer (some ⟨p, 0, none⟩) := h0 0 (by kernel_rfl)
          refine ⟨fun _ => ?_, fun h => by cases h⟩
          clear h0 hg hd
          exact gives_move rfl ⟨Chg.refl _ _, s0⟩
        · intro ρ w1 hw h0 hc hg hf hd
          have s0 : ρ (.tmp 0) = .pointer (some ⟨p, 0, none⟩) := h0 0 (by kernel_rfl)
          refine ⟨fun _ => ?_, fun h => by cases h⟩
          clear h0 hg hd
          exact gives_move rfl ⟨Chg.refl _ _, s0⟩
        · intro ρ w1 hw h0 hc hg hf hd
          have d1 := hd ⟨1, .data⟩ (by simp) rfl _ _ _ rfl rfl rfl
          refine ⟨fun _ => ?_, fun h => by cases h⟩
          clear h0 hg hd
          clear hf hc
          refine Gives.value (w' := w1) ?_ ⟨Chg.refl _ _, rfl⟩
          go_simp
        · intro ρ w1 hw h0 hc hg hf hd
          have d2 := hd ⟨2, .data⟩ (by simp) rfl _ _ _ rfl rfl rfl
          refine ⟨fun _ => ?_, fun h => by cases h⟩
          clear h0 hg hd
          clear hf hc
          refine Gives.value (w' := w1) ?_ ⟨Chg.refl _ _, rfl⟩
          go_simp
        · intro ρ w1 hw h0 hc hg hf hd
          have d3 := hd ⟨3, .data⟩ (by simp) rfl _ _ _ rfl rfl rfl
          refine ⟨fun _ => ?_, fun h => by cases h⟩
          clear h0 hg hd
          clear hc hf
          have c0 := hw.cell HLV.out (fun h => h)
          refine Gives.value (w' := w1) ?_ ⟨Chg.refl _ _, rfl⟩
          go_simp
        · intro ρ w1 hw h0 hc hg hf hd
          have s1 : ρ (.tmp 1) = .int .i64 n := h0 1 (by kernel_rfl)
          refine ⟨fun _ => ?_, fun h => by cases h⟩
          clear h0 hg hd
          exact gives_move rfl ⟨Chg.refl _ _, s1⟩
        · intro ρ w1 hw h0 hc hg hf hd
          have s2 : ρ (.tmp 2) = .int .i64 8 := h0 2 (by kernel_rfl)
          refine ⟨fun _ => ?_, fun h => by cases h⟩
          clear h0 hg hd
          exact gives_move rfl ⟨Chg.refl _ _, s2⟩
        · intro ρ w1 hw h0 hc hg hf hd
          have d6 := hd ⟨6, .data⟩ (by simp) rfl _ _ _ rfl rfl rfl
          refine ⟨fun _ => ?_, fun h => by cases h⟩
          clear h0 hg hd
          clear hf
          refine Gives.value (w' := w1) ?_ ⟨Chg.refl _ _, rfl⟩
          go_simp
          rfl
        · intro ρ w1 hw h0 hc hg hf hd
          have s6 : ρ (.tmp 6) = .int .i64 (j : Int) := h0 6 (by kernel_rfl)
          refine ⟨fun _ => ?_, fun h => by cases h⟩
          clear h0 hg hd
          exact gives_move rfl ⟨Chg.refl _ _, s6⟩
        · intro ρ w1 hw h0 hc hg hf hd
          have d7 := hd ⟨7, .data⟩ (by simp) rfl _ _ _ rfl rfl rfl
          have d8 := hd ⟨8, .data⟩ (by simp) rfl _ _ _ rfl rfl rfl
          refine ⟨fun _ => ?_, fun h => by cases h⟩
          clear h0 hg hd
          clear hf
          refine Gives.value (w' := w1) ?_ ⟨Chg.refl _ _, rfl⟩
          go_simp
          exact wrap_in (by omega) (by omega)
        · intro ρ w1 hw h0 hc hg hf hd
          have d9 := hd ⟨9, .data⟩ (by simp) rfl _ _ _ rfl rfl rfl
          refine ⟨fun _ => ?_, fun h => by cases h⟩
          clear h0 hg hd
          clear hf
          refine Gives.value (w' := w1) ?_ ⟨Chg.refl _ _, rfl⟩
          go_simp
          exact wrap_in (by omega) (by omega)
        · intro ρ w1 hw h0 hc hg hf hd
          have d5 := hd ⟨5, .data⟩ (by simp) rfl _ _ _ rfl rfl rfl
          have d10 := hd ⟨10, .data⟩ (by simp) rfl _ _ _ rfl rfl rfl
          refine ⟨fun _ => ?_, fun h => by cases h⟩
          clear h0 hg hd
          clear hf
          refine Gives.value (w' := w1) ?_ ⟨Chg.refl _ _, rfl⟩
          go_simp
        · intro ρ w1 hw h0 hc hg hf hd
          have d11 := hd ⟨11, .data⟩ (by simp) rfl _ _ _ rfl rfl rfl
          refine ⟨fun _ => ?_, fun h => by cases h⟩
          clear h0 hg hd
          clear hf
          refine Gives.value (w' := w1) ?_ ⟨Chg.refl _ _, rfl⟩
          go_simp
          exact wrap_u8 _
        · intro ρ w1 hw h0 hc hg hf hd
          have d12 := hd ⟨12, .data⟩ (by simp) rfl _ _ _ rfl rfl rfl
          refine ⟨fun _ => ?_, fun h => by cases h⟩
          clear h0 hg hd
          clear hc hf
          refine Gives.value (v := .slice (some ⟨w1.heap.size, 0, none⟩) 1 1) (w' := w1.alloc (.cells #[.int .u8 (n / 2 ^ (8 * (7 - (j : Int))).toNat % 256)] 5)) ?_ ⟨(Chg.refl _ w1).alloc _, w1.heap.size, rfl, hw.size, heap_alloc_last w1 _⟩
          go_simp
      · intro vs w2 hw hr
        have h0 := hr 0 _ rfl
        have h4 := hr 4 _ rfl
        have h13 := hr 13 _ rfl
        clear hr
        dsimp only [putsL, restL]
        simp only [Act.put, List.setIfInBounds_toArray, List.set_cons_zero, List.set_cons_succ]
        simp only [Nat.zero_add, Nat.reduceAdd]
        have h13s := h13.src
        have h13g := h13
        obtain ⟨g13, e13, hg13, _⟩ := h13
        rw [h0, h4, e13]
        rw [e13] at h13s
        have hu2 : Up wr w2 := (Chg.refl (fun _ => False) wr).drew.trans hw
        have ho2 := HO.out.up hu2
        obtain ⟨v3, w3, hrun, ho3, hg3, _, hb3⟩ := ap_run (P := Try.prog) w2 28 28 0 5 (.int .u8 0) 1 1 Try.underlying28 (by kernel_rfl) rfl (by decide) _ _ _ ho2.row _ 1 _ h13s (by simp [Value.oneCell']) (by omega) (by omega) (Nat.zero_le _)
        obtain ⟨A3, c3, rfl⟩ := own_shape ho3
        have hc3 := Chg.of_grownBy hg3
        have hne : ¬ some p = (Value.slice A0 ys.length c0).ownBlock := fun hk => by
          obtain ⟨cu, fu, hh⟩ := own_type ho2.row p hk.symm
          rw [ho2.obj] at hh; cases hh
        have hobj := hc3.heap ho2.obj hne
        have hcp := cell_of_row w3 p 0 _ _ _ hobj
        have hfz := frozen_of_row w3 p 0 _ _ hobj
        have hcs : Chg (fun i => i = p) w3 (w3.setCell ⟨p, 0, none⟩ (.slice A3 (ys.length + 1) c3)) := (Chg.refl (fun i => i = p) w3).setCell ⟨p, 0, none⟩ (.inl rfl) _
        have hobj4 : (w3.setCell ⟨p, 0, none⟩ (.slice A3 (ys.length + 1) c3)).heap[p]? = some (.cells #[.slice A3 (ys.length + 1) c3] 124 (0, 0)) := by rw [heap_setCell_same w3 p 0 _ _ _ hobj]; rfl
        have hrow4 := own_chg ho3 hcs (fun k hk e => by
          obtain ⟨cu, fu, hh⟩ := own_type ho3 k hk
          rw [e, hobj] at hh; cases hh)
        have hl : (xs ++ be8 n (j + 1)).length = ys.length + 1 := by rw [be8_succ, ← List.append_assoc, HYS.out]; simp
        have hu8 : u8s ys ++ [.int .u8 (n / 2 ^ (8 * (7 - (j : Int))).toNat % 256)] = u8s (xs ++ be8 n (j + 1)) := by rw [be8_succ, ← List.append_assoc, HYS.out]; simp [u8s]
        rw [hu8] at hrow4
        have hsz := HCH.out.size
        have hsz2 := hu2.size
        have HREL : Hid (OutAt (w3.setCell ⟨p, 0, none⟩ (.slice A3 (ys.length + 1) c3)) p (.slice A3 (ys.length + 1) c3) (xs ++ be8 n (j + 1)) ∧ (∀ k, OwnO p (.slice A3 (ys.length + 1) c3) k → OwnO p sv k ∨ w.heap.size ≤ k) ∧ Chg (OwnO p sv) w (w3.setCell ⟨p, 0, none⟩ (.slice A3 (ys.length + 1) c3))) := Lib.hid ⟨⟨hobj4, by rw [hl]; exact hrow4⟩, fun k hk => by
          rcases hk with rfl | hk
          · exact .inl (.inl rfl)
          · rcases hb3 with e | e
            · exact HOWN.out k (.inr (by rw [← e]; exact hk))
            · rw [e] at hk; injection hk with hk; exact .inr (by omega), ((HCH.out.then hu2 (fun _ h => h.elim)).then hc3 (fun k hk => by
            have := HOWN.out k (.inr hk.symm)
            exact this)).then hcs (fun k hk => .inl (.inl hk))⟩
        have HRUN := Lib.hid hrun
        clear hw h0 h4 e13 hg13 h13g h13s hu2 ho2 hrun ho3 hg3 hb3 hc3 hne hobj hcs hobj4 hrow4 hl hu8
        go_wp2_with (at_builtin; refine wpList_run_append rfl _ _ 28 rfl _ _ rfl rfl 28 rfl HRUN.out ?_)
        exact ⟨⟨j + 1, _, by omega, by go_num, HREL.out⟩, by simp [intOf]; omega⟩
    · obtain rfl : j = 8 := by omega
      have HO := Lib.hid ho
      have HOWN := Lib.hid hown
      have HCH := Lib.hid hch
      clear ho hown hch
      go_wp2_with fail
      go_end0
      exact ⟨⟨_, rfl⟩, sv', HO.out, HOWN.out, HCH.out⟩
def OPtr (w : World) (p : Nat) (sv : Value) (ys : List Int) (e : Ending) (w' : World) : Prop := e = .returned (.pointer (some ⟨p, 0, none⟩)) ∧ ∃ sv', OutAt w' p sv' ys ∧ (∀ j, OwnO p sv' j → OwnO p sv j ∨ w.heap.size ≤ j) ∧ Chg (OwnO p sv) w w'
set_option maxRecDepth 100000 in
set_option maxHeartbeats 4000000 in
theorem oint_any (w : World) (p : Nat) (sv : Value) (xs : List Int) (h : OutAt w p sv xs) (hx : xs.length ≤ 100000) (n : Int) (hn : I64 n) : Calls Try.prog 94 #[.pointer (some ⟨p, 0, none⟩), .int .i64 n] w (OPtr w p sv (xs ++ be8 n 8)) := by
  have HN := Lib.hid (onum_any w p sv xs h hx n hn)
  clear h
  go_enter Try.func94, Try.ntmps94
  go_wp2_with fail
  refine HN.out.mono ?_
  rintro e w1 hp
  obtain ⟨⟨u, rfl⟩, hq⟩ := hp
  have HQ := Lib.hid hq
  clear hq HN
  go_wp2_with fail
  go_ret
  exact ⟨rfl, HQ.out⟩
set_option maxRecDepth 100000 in
set_option maxHeartbeats 4000000 in
theorem oall_any (w : World) (p : Nat) (sv : Value) (xs : List Int) (h : OutAt w p sv xs) (hx : xs.length ≤ 100000) : Calls Try.prog 95 #[.pointer (some ⟨p, 0, none⟩)] w (fun e w' => ∃ v, e = .returned v ∧ w'.ownsRow w.heap.size 5 1 v xs.length (u8s xs) ∧ Below w.heap.size w w') := by
  have c0 := cell_of_row w p 0 _ _ _ h.obj
  have HCL := Lib.hid (clone_any sv xs w (slb_of h.row) (by unfold Room; omega))
  clear h
  go_enter Try.func95, Try.ntmps95
  go_wp2_with fail
  refine HCL.out.mono ?_
  rintro e w1 ⟨v, rfl, hv, hb, _⟩
  have HV := Lib.hid hv
  have HB := Lib.hid hb
  clear hv hb HCL
  go_wp2_with fail
  go_ret
  exact ⟨_, rfl, HV.out, HB.out⟩
end Go.Proofs.Ytkndnlhlglgmfaa
namespace Go.Proofs.Ytkndnlhlglgmfaa
open Go.RowKit
theorem wraps_u64 (n : Int) (h0 : 0 ≤ n) (h1 : n < 2 ^ 64) : IntKind.u64.wrap n = n := by
  simp only [IntKind.wrap, IntKind.bits, IntKind.signed]
  simp
  omega
theorem u64_or8 {x y : Int} (hx0 : 0 ≤ x) (hx : x % 256 = 0) (hx1 : x < 18446744073709551616) (h0 : 0 ≤ y) (h1 : y < 256) : bits .or .u64 x y = x + y :=
  bits_join .u64 64 (by decide) wraps_u64 8 x y hx0 (by simpa using hx) (by simpa using hx1) h0 (by simpa using h1) (by simp; omega)
theorem wrap_u64 (z : Int) : IntKind.u64.wrap z = z % 18446744073709551616 := by
  simp [IntKind.wrap, IntKind.bits, IntKind.signed]
/-- A number out of bytes. -/
def numU (l : List Int) : Int := l.foldl (fun n c => n * 256 % 18446744073709551616 + c) 0
theorem numU_take (l : List Int) (k : Nat) (h : k < l.length) : numU (l.take (k + 1)) = numU (l.take k) * 256 % 18446744073709551616 + l.getD k 0 := by
  unfold numU
  rw [List.take_add_one, List.getElem?_eq_getElem h, List.foldl_append]
  simp [List.getD_eq_getElem?_getD, List.getElem?_eq_getElem h]
theorem numU_bd (l : List Int) (hl : Bytes l) : ∀ k, k ≤ l.length → 0 ≤ numU (l.take k) ∧ numU (l.take k) < 18446744073709551616
  | 0, _ => by simp [numU]
  | k + 1, h => by
    rw [numU_take l k (by omega)]
    have := hl k
    omega
set_option maxRecDepth 100000 in
set_option maxHeartbeats 4000000 in
theorem inum_any (w : World) (v : Value) (xs : List Int) (h : SlB w v xs) (hb : Bytes xs) : Calls Try.prog 105 #[v] w (fun e w' => e = .returned (.int .i64 (wrap64 (numU xs))) ∧ w' = w) := by
  obtain ⟨A, c, rfl, hc1, hc2⟩ := h.shape
  have HS := Lib.hid h
  have HB := Lib.hid hb
  clear h hb
  go_enter Try.func105, Try.ntmps105
  go_wp2_with fail
  go_loopw [3, 8] (fun n t wr => ∃ k : Nat, k ≤ xs.length ∧ t = .int .i64 k ∧ n = .int .u64 (numU (xs.take k)) ∧ wr = w) (fun _ t _ => xs.length - (intOf t).toNat)
  case atStart => exact ⟨0, by omega, rfl, rfl, rfl⟩
  case round =>
    obtain ⟨k, hk, rfl, rfl, rfl⟩ := hrel
    rename World => w
    by_cases hk2 : (k : Int) < xs.length
    · obtain ⟨b, off, cc, he, _, _⟩ := HS.out.form (by omega)
      injection he with e1 e2 e3
      subst e1 e3
      have hce := HS.out.at_ k (by omega)
      have hnx := numU_take xs k (by omega)
      obtain ⟨hn1, hn2⟩ := numU_bd xs HB.out k (by omega)
      obtain ⟨z1, z2⟩ := HB.out k
      obtain ⟨x, hx⟩ : ∃ x, numU (xs.take k) = x := ⟨_, rfl⟩
      obtain ⟨z, hz⟩ : ∃ z, xs.getD k 0 = z := ⟨_, rfl⟩
      rw [hx] at hnx hn1 hn2 ⊢
      rw [hz] at hnx hce z1 z2
      have hor : bits .or .u64 (IntKind.u64.wrap (x * 256)) z = x * 256 % 18446744073709551616 + z := by
        rw [wrap_u64]
        exact u64_or8 (by omega) (by omega) (by omega) z1 (by omega)
      have HNX := Lib.hid hnx
      clear hnx hx hz
      go_wp2_with fail
      exact ⟨⟨k + 1, by omega, by go_num, by rw [HNX.out], trivial⟩, by simp [intOf]; omega⟩
    · have hke : (k : Int) = xs.length := by omega
      have hkn : k = xs.length := by omega
      rw [hkn, List.take_length]
      go_wp2_with fail
      go_ret
      exact ⟨rfl, rfl⟩
end Go.Proofs.Ytkndnlhlglgmfaa
namespace Go.Proofs.Ytkndnlhlglgmfaa
open Go.RowKit
structure InAt (w : World) (p : Nat) (v : Value) (xs : List Int) (bad : Bool) : Prop where
  obj : w.heap[p]? = some (.cells #[v, .bool bad] 121 (0, 0))
  sl : SlB w v xs
  by_ : Bytes xs
  sep : ∀ g, Value.blk v = some g → 0 < xs.length → g ≠ p
theorem InAt.chg {S : Nat → Prop} {w w' : World} {p : Nat} {v : Value} {xs : List Int} {bad : Bool} (h : InAt w p v xs bad) (hc : Chg S w w') (hp : ¬ S p) (hS : ∀ g, Value.blk v = some g → 0 < xs.length → ¬ S g) : InAt w' p v xs bad :=
  ⟨hc.heap h.obj hp, Src.chg h.sl hc (fun g hg h0 => hS g hg h0) (by decide), h.by_, h.sep⟩
theorem InAt.up {w w' : World} {p : Nat} {v : Value} {xs : List Int} {bad : Bool} (h : InAt w p v xs bad) (hu : Up w w') : InAt w' p v xs bad := h.chg hu (fun h => h) (fun _ _ _ h => h)
theorem bytes_take {xs : List Int} (h : Bytes xs) (k : Nat) : Bytes (xs.take k) := fun j => by
  by_cases hj : j < k
  · rw [getD_take _ _ _ hj]; exact h j
  · rw [List.getD_eq_getElem?_getD, List.getElem?_eq_none (by simp; omega)]; simp
theorem bytes_drop {xs : List Int} (h : Bytes xs) (k : Nat) : Bytes (xs.drop k) := fun j => by rw [getD_drop]; exact h (k + j)
/-- 'b[:8:8]'. -/
theorem slice_hm8 {w : World} {A : Option Addr} {n c : Nat} {xs : List Int} (h : SlB w (.slice A n c) xs) (hn : n = xs.length) (h8 : 8 ≤ n) : SlB w (.slice A 8 8) (xs.take 8) ∧ ∀ W : World, (Instr.slice 28 (.slice A n c) none (some (.int .i64 8)) (some (.int .i64 8))).run Try.prog W = .ok (.slice A 8 8) W := by
  have hl : (xs.take 8).length = 8 := by rw [List.length_take]; omega
  have he : Try.prog.elem 28 = 5 := by unfold Program.elem; rw [Try.underlying28]
  have hs : ∀ W : World, (sizeOf 5).run Try.prog W = .ok 1 W := fun W => by
    obtain ⟨i, hi, h1⟩ := Option.map_eq_some_iff.1 (show (Try.prog.info? 5).map (·.size) = some 1 by kernel_rfl)
    simp [sizeOf, typeInfo, hi, h1]
  rcases h with ⟨e, h0, h1⟩ | ⟨ad, cc, e, hlen, hc, hc2, hr⟩
  · injection e with _ e2 _; omega
  · injection e with e1 e2 e3
    subst e1 e3
    refine ⟨.inr ⟨ad, 8, by rw [hl], by rw [u8s_len]; omega, by omega, by omega, fun j u hu => ?_⟩, fun W => ?_⟩
    · have hj : j < (xs.take 8).length := by have := (List.getElem?_eq_some_iff.1 hu).1; rwa [u8s_len] at this
      rw [u8s_at hj, getD_take _ _ _ (by omega)] at hu
      exact hr j u (by rw [u8s_at (by omega)]; exact hu)
    · rw [run_slice_hm W 28 (some ad) n c (by rw [he]; exact Try.underlying28) .i64 .i64 (8 : Int) (8 : Int) (by omega) (by omega) (by omega), he, hs]
      have : sliced (some ad) 0 8 8 1 = .slice (some ad) 8 8 := by
        unfold sliced
        simp [Addr.add]
      simpa using this
def takI (xs : List Int) (bad : Bool) : List Int × List Int × Bool := if bad = true ∨ xs.length < 8 then ([], xs, true) else (xs.take 8, xs.drop 8, false)
def TkPost (w : World) (p : Nat) (v : Value) (r : List Int × List Int × Bool) (e : Ending) (w' : World) : Prop := ∃ v1 v2, e = .returned v1 ∧ InAt w' p v2 r.2.1 r.2.2 ∧ SlB w' v1 r.1 ∧ (Value.blk v2 = Value.blk v ∨ r.2.1.length = 0) ∧ Chg (fun k => k = p) w w'
set_option maxRecDepth 100000 in
set_option maxHeartbeats 4000000 in
theorem take_any (w : World) (p : Nat) (v : Value) (xs : List Int) (bad : Bool) (h : InAt w p v xs bad) : Calls Try.prog 104 #[.pointer (some ⟨p, 0, none⟩), .int .i64 8] w (TkPost w p v (takI xs bad)) := by
  obtain ⟨A, c, rfl, hc1, hc2⟩ := h.sl.shape
  have q0 := cell_of_row w p 0 _ _ _ h.obj
  have q1 := cell_of_row w p 1 _ _ _ h.obj
  have f0 := frozen_of_row w p 0 _ _ h.obj
  have f1 := frozen_of_row w p 1 _ _ h.obj
  have H := Lib.hid h
  have hbad : Hid (∀ u, SlB (w.setCell ⟨p, 1, none⟩ u) (.slice A xs.length c) xs) := Lib.hid (fun u => Src.chg h.sl ((Chg.refl (fun k => k = p) w).setCell ⟨p, 1, none⟩ (.inl rfl) u) (fun g hg h0 => h.sep g hg h0) (by decide))
  have HC1 : Hid (Chg (fun k => k = p) w (w.setCell ⟨p, 1, none⟩ (.bool true))) := Lib.hid ((Chg.refl (fun k => k = p) w).setCell ⟨p, 1, none⟩ (.inl rfl) _)
  have HOB1 : Hid ((w.setCell ⟨p, 1, none⟩ (.bool true)).heap[p]? = some (.cells #[.slice A xs.length c, .bool true] 121 (0, 0))) := Lib.hid (by rw [heap_setCell_same w p 1 _ _ _ h.obj]; rfl)
  unfold takI
  cases hb : bad with
  | true =>
    rw [hb] at q1
    rw [if_pos (.inl rfl)]
    clear h
    go_enter Try.func104, Try.ntmps104
    go_wp2_with fail
    go_ret
    exact ⟨_, _, rfl, ⟨HOB1.out, hbad.out _, H.out.by_, H.out.sep⟩, .inl ⟨rfl, rfl, rfl⟩, .inl rfl, HC1.out⟩
  | false =>
    rw [hb] at q1
    by_cases h8 : (xs.length : Int) < 8
    · rw [if_pos (.inr (by omega))]
      clear h
      go_enter Try.func104, Try.ntmps104
      go_wp2_with fail
      go_ret
      exact ⟨_, _, rfl, ⟨HOB1.out, hbad.out _, H.out.by_, H.out.sep⟩, .inl ⟨rfl, rfl, rfl⟩, .inl rfl, HC1.out⟩
    · rw [if_neg (by simp; omega)]
      obtain ⟨hs1, hr1⟩ := slice_hm8 h.sl rfl (by omega)
      obtain ⟨v2, hs2, hb2, hr2⟩ := slice_from 28 5 Try.underlying28 (by kernel_rfl) w _ xs 8 h.sl (by omega)
      obtain ⟨A2, c2, hv2, _, _⟩ := hs2.shape
      obtain ⟨n2, hn2⟩ : ∃ n2, (xs.drop 8).length = n2 := ⟨_, rfl⟩
      rw [hn2] at hv2
      clear hn2
      subst hv2
      have hr2' : ∀ W : World, (Instr.slice 28 (.slice A xs.length c) (some (.int .i64 8)) none none).run Try.prog W = .ok (.slice A2 n2 c2) W := hr2
      have hc : Chg (fun k => k = p) w (w.setCell ⟨p, 0, none⟩ (.slice A2 n2 c2)) := (Chg.refl (fun k => k = p) w).setCell ⟨p, 0, none⟩ (.inl rfl) _
      have HREL : Hid (InAt (w.setCell ⟨p, 0, none⟩ (.slice A2 n2 c2)) p (.slice A2 n2 c2) (xs.drop 8) false ∧ SlB (w.setCell ⟨p, 0, none⟩ (.slice A2 n2 c2)) (.slice A 8 8) (xs.take 8) ∧ (Value.blk (.slice A2 n2 c2) = Value.blk (.slice A xs.length c) ∨ (xs.drop 8).length = 0) ∧ Chg (fun k => k = p) w (w.setCell ⟨p, 0, none⟩ (.slice A2 n2 c2))) := Lib.hid ⟨⟨by rw [heap_setCell_same w p 0 _ _ _ h.obj, hb]; rfl, Src.chg hs2 hc (fun g hg h0 => by
        rw [hb2 h0] at hg
        exact h.sep g hg (by simp at h0; omega)) (by decide), bytes_drop h.by_ 8, fun g hg h0 => by
        rw [hb2 h0] at hg
        exact h.sep g hg (by simp at h0; omega)⟩, Src.chg hs1 hc (fun g hg h0 => h.sep g (by cases A with
        | none => simp [Value.blk] at hg
        | some a => exact hg) (by omega)) (by decide), by
        by_cases h0 : 0 < (xs.drop 8).length
        · exact .inl (hb2 h0)
        · exact .inr (by omega), hc⟩
      clear h hs1 hs2 hb2 hr2 hc
      go_enter Try.func104, Try.ntmps104
      go_wp2_with fail
      go_ret
      exact ⟨_, _, rfl, HREL.out⟩
/-- The next number. -/
def inI (xs : List Int) (bad : Bool) : Int × List Int × Bool := if bad = true ∨ xs.length < 8 then (0, xs, true) else (wrap64 (numU (xs.take 8)), xs.drop 8, false)
def InPost (w : World) (p : Nat) (v : Value) (r : Int × List Int × Bool) (e : Ending) (w' : World) : Prop := ∃ v2, e = .returned (.int .i64 r.1) ∧ InAt w' p v2 r.2.1 r.2.2 ∧ (Value.blk v2 = Value.blk v ∨ r.2.1.length = 0) ∧ Chg (fun k => k = p) w w'
set_option maxRecDepth 100000 in
set_option maxHeartbeats 4000000 in
theorem int_any (w : World) (p : Nat) (v : Value) (xs : List Int) (bad : Bool) (h : InAt w p v xs bad) : Calls Try.prog 93 #[.pointer (some ⟨p, 0, none⟩)] w (InPost w p v (inI xs bad)) := by
  have HT := Lib.hid (take_any w p v xs bad h)
  have HB := Lib.hid h.by_
  clear h
  unfold takI at HT
  unfold inI
  by_cases hc : bad = true ∨ xs.length < 8
  · rw [if_pos hc] at HT ⊢
    go_enter Try.func93, Try.ntmps93
    go_wp2_with fail
    refine HT.out.mono ?_
    rintro e w1 hp
    obtain ⟨v1, v2, rfl, hi, hs, hbl, hc⟩ := hp
    have q1 := cell_of_row w1 p 1 _ _ _ hi.obj
    have HI := Lib.hid hi
    have HBL := Lib.hid hbl
    have HC := Lib.hid hc
    clear hi hs hbl hc HT
    go_wp2_with fail
    go_ret
    exact ⟨v2, rfl, HI.out, HBL.out, HC.out⟩
  · rw [if_neg hc] at HT ⊢
    go_enter Try.func93, Try.ntmps93
    go_wp2_with fail
    refine HT.out.mono ?_
    rintro e w1 hp
    obtain ⟨v1, v2, rfl, hi, hs, hbl, hc⟩ := hp
    have q1 := cell_of_row w1 p 1 _ _ _ hi.obj
    have HI := Lib.hid hi
    have HBL := Lib.hid hbl
    have HC := Lib.hid hc
    have HN := Lib.hid (inum_any w1 v1 _ hs (bytes_take HB.out 8))
    dsimp only at q1
    clear hi hs hbl hc HT
    go_wp2_with fail
    refine HN.out.mono ?_
    rintro e w2 ⟨rfl, rfl⟩
    go_wp2_with fail
    go_ret
    exact ⟨v2, rfl, HI.out, HBL.out, HC.out⟩
/-- The next number, within bounds. -/
def cntI (xs : List Int) (bad : Bool) (least most : Int) : Int × List Int × Bool := if (inI xs bad).2.2 = true ∨ (inI xs bad).1 < least ∨ most < (inI xs bad).1 then (0, (inI xs bad).2.1, true) else ((inI xs bad).1, (inI xs bad).2.1, false)
set_option maxRecDepth 100000 in
set_option maxHeartbeats 4000000 in
theorem cnt_any (w : World) (p : Nat) (v : Value) (xs : List Int) (bad : Bool) (h : InAt w p v xs bad) (least most : Int) : Calls Try.prog 79 #[.pointer (some ⟨p, 0, none⟩), .int .i64 least, .int .i64 most] w (InPost w p v (cntI xs bad least most)) := by
  have HT := Lib.hid (int_any w p v xs bad h)
  clear h
  unfold cntI
  obtain ⟨n, rest, b, hr⟩ : ∃ n rest b, inI xs bad = (n, rest, b) := ⟨_, _, _, rfl⟩
  rw [hr] at HT ⊢
  dsimp only at HT ⊢
  clear hr
  have after : ∀ (w1 : World) (v2 : Value), InAt w1 p v2 rest b → InAt (w1.setCell ⟨p, 1, none⟩ (.bool true)) p v2 rest true := fun w1 v2 hi => by
    have hc : Chg (fun k => k = p) w1 (w1.setCell ⟨p, 1, none⟩ (.bool true)) := (Chg.refl (fun k => k = p) w1).setCell ⟨p, 1, none⟩ (.inl rfl) _
    exact ⟨by rw [heap_setCell_same w1 p 1 _ _ _ hi.obj]; rfl, Src.chg hi.sl hc (fun g hg h0 => hi.sep g hg h0) (by decide), hi.by_, hi.sep⟩
  have HAF := Lib.hid after
  clear after
  cases b with
  | true =>
    rw [if_pos (.inl rfl)]
    go_enter Try.func79, Try.ntmps79
    go_wp2_with fail
    refine HT.out.mono ?_
    rintro e w1 hp
    obtain ⟨v2, rfl, hi, hbl, hc⟩ := hp
    dsimp only at hi hbl
    have q1 := cell_of_row w1 p 1 _ _ _ hi.obj
    have f1 := frozen_of_row w1 p 1 _ _ hi.obj
    have HI := Lib.hid hi
    have HBL := Lib.hid hbl
    have HC := Lib.hid hc
    have HC2 : Hid (Chg (fun k => k = p) w (w1.setCell ⟨p, 1, none⟩ (.bool true))) := Lib.hid (hc.setCell ⟨p, 1, none⟩ (.inl rfl) _)
    clear hi hbl hc HT
    dsimp only
    go_wp2_with fail
    go_ret
    exact ⟨v2, rfl, HAF.out w1 v2 HI.out, HBL.out, HC2.out⟩
  | false =>
    by_cases h1 : n < least
    · rw [if_pos (.inr (.inl h1))]
      go_enter Try.func79, Try.ntmps79
      go_wp2_with fail
      refine HT.out.mono ?_
      rintro e w1 hp
      obtain ⟨v2, rfl, hi, hbl, hc⟩ := hp
      dsimp only at hi hbl
      have q1 := cell_of_row w1 p 1 _ _ _ hi.obj
      have f1 := frozen_of_row w1 p 1 _ _ hi.obj
      have HI := Lib.hid hi
      have HBL := Lib.hid hbl
      have HC := Lib.hid hc
      have HC2 : Hid (Chg (fun k => k = p) w (w1.setCell ⟨p, 1, none⟩ (.bool true))) := Lib.hid (hc.setCell ⟨p, 1, none⟩ (.inl rfl) _)
      clear hi hbl hc HT
      dsimp only
      go_wp2_with fail
      go_ret
      exact ⟨v2, rfl, HAF.out w1 v2 HI.out, HBL.out, HC2.out⟩
    · by_cases h2 : most < n
      · rw [if_pos (.inr (.inr h2))]
        go_enter Try.func79, Try.ntmps79
        go_wp2_with fail
        refine HT.out.mono ?_
        rintro e w1 hp
        obtain ⟨v2, rfl, hi, hbl, hc⟩ := hp
        dsimp only at hi hbl
        have q1 := cell_of_row w1 p 1 _ _ _ hi.obj
        have f1 := frozen_of_row w1 p 1 _ _ hi.obj
        have HI := Lib.hid hi
        have HBL := Lib.hid hbl
        have HC := Lib.hid hc
        have HC2 : Hid (Chg (fun k => k = p) w (w1.setCell ⟨p, 1, none⟩ (.bool true))) := Lib.hid (hc.setCell ⟨p, 1, none⟩ (.inl rfl) _)
        clear hi hbl hc HT
        dsimp only
        go_wp2_with fail
        go_ret
        exact ⟨v2, rfl, HAF.out w1 v2 HI.out, HBL.out, HC2.out⟩
      · rw [if_neg (by simp; omega)]
        go_enter Try.func79, Try.ntmps79
        go_wp2_with fail
        refine HT.out.mono ?_
        rintro e w1 hp
        obtain ⟨v2, rfl, hi, hbl, hc⟩ := hp
        dsimp only at hi hbl
        have q1 := cell_of_row w1 p 1 _ _ _ hi.obj
        have f1 := frozen_of_row w1 p 1 _ _ hi.obj
        have HI := Lib.hid hi
        have HBL := Lib.hid hbl
        have HC := Lib.hid hc
        have HC2 : Hid (Chg (fun k => k = p) w (w1.setCell ⟨p, 1, none⟩ (.bool true))) := Lib.hid (hc.setCell ⟨p, 1, none⟩ (.inl rfl) _)
        clear hi hbl hc HT
        dsimp only
        go_wp2_with fail
        go_ret
        exact ⟨v2, rfl, HI.out, HBL.out, HC.out⟩
set_option maxRecDepth 100000 in
set_option maxHeartbeats 4000000 in
theorem bad_any (w : World) (p : Nat) (v : Value) (xs : List Int) (bad : Bool) (h : InAt w p v xs bad) : Calls Try.prog 80 #[.pointer (some ⟨p, 0, none⟩)] w (fun e w' => e = .returned (.bool bad) ∧ w' = w) := by
  have q1 := cell_of_row w p 1 _ _ _ h.obj
  clear h
  go_enter Try.func80, Try.ntmps80
  go_wp2_with fail
  go_ret
  exact ⟨rfl, rfl⟩
set_option maxRecDepth 100000 in
set_option maxHeartbeats 4000000 in
theorem newin_any (w : World) (v : Value) (xs : List Int) (h : SlB w v xs) (hb : Bytes xs) (hx : xs.length ≤ 1000000) : Calls Try.prog 78 #[v] w (fun e w' => ∃ p v2, e = .returned (.pointer (some ⟨p, 0, none⟩)) ∧ InAt w' p v2 xs false ∧ w.heap.size ≤ p ∧ (∀ g, Value.blk v2 = some g → 0 < xs.length → w.heap.size ≤ g) ∧ Below w.heap.size w w') := by
  have HCL := Lib.hid (clone_any v xs w h (by unfold Room; omega))
  have HB := Lib.hid hb
  clear h hb
  go_enter Try.func78, Try.ntmps78
  go_wp2_with fail
  refine HCL.out.mono ?_
  rintro e w1 ⟨v2, rfl, hv, hbw, hnn⟩
  clear hnn
  obtain ⟨A2, c2, rfl⟩ := own_shape hv
  have hsz := (up_below hbw).size
  have hu : Up w1 (w1.alloc (.cells #[.slice A2 xs.length c2, .bool false] 121)) := (Chg.refl _ w1).alloc _
  have hbg : ∀ g, Value.blk (.slice A2 xs.length c2) = some g → 0 < xs.length → w.heap.size ≤ g ∧ g < w1.heap.size := fun g hg h0 => by
    rcases hv.2 with ⟨_, hz⟩ | ⟨g', cap, cur, he, h1, h2, _⟩
    · omega
    · rw [he] at hg
      injection hg with hg
      subst hg
      exact ⟨h1, (Array.getElem?_eq_some_iff.1 h2).1⟩
  have HREL : Hid (InAt (w1.alloc (.cells #[.slice A2 xs.length c2, .bool false] 121)) w1.heap.size (.slice A2 xs.length c2) xs false ∧ w.heap.size ≤ w1.heap.size ∧ (∀ g, Value.blk (.slice A2 xs.length c2) = some g → 0 < xs.length → w.heap.size ≤ g) ∧ Below w.heap.size w (w1.alloc (.cells #[.slice A2 xs.length c2, .bool false] 121))) := Lib.hid ⟨⟨heap_alloc_last w1 _, slb_of (own_chg hv hu (fun _ _ h => h)), HB.out, fun g hg h0 e => by have := (hbg g hg h0).2; omega⟩, hsz, fun g hg h0 => (hbg g hg h0).1, ((up_below hbw).then hu (fun _ h => h.elim)).below (Nat.le_refl _) (fun _ h => h.elim)⟩
  clear hv hbw hsz hu hbg HCL
  go_wp2_with fail
  go_ret
  exact ⟨_, _, rfl, HREL.out⟩
end Go.Proofs.Ytkndnlhlglgmfaa
namespace Go.Proofs.Ytkndnlhlglgmfaa
open Go.RowKit
structure ChI where
  at_ : Int
  dat : List Int
instance : Inhabited ChI := ⟨⟨0, []⟩⟩
def rowC : List ChI → List Value → List Value
  | c :: cs, d :: ds => .int .i64 c.at_ :: d :: rowC cs ds
  | _, _ => []
theorem rowC_at : ∀ (cs : List ChI) (ds : List Value) (k : Nat), ds.length = cs.length → k < cs.length → (rowC cs ds)[2 * k]? = some (.int .i64 (cs.getD k default).at_) ∧ (rowC cs ds)[2 * k + 1]? = some (ds.getD k undef)
  | [], _, _, _, h => by simp at h
  | _ :: _, [], _, h, _ => by simp at h
  | c :: cs, d :: ds, 0, _, _ => by simp [rowC]
  | c :: cs, d :: ds, k + 1, hd, hk => by
    have ih := rowC_at cs ds k (by simpa using hd) (by simpa using hk)
    rw [show 2 * (k + 1) = 2 * k + 1 + 1 by omega]
    simpa [rowC] using ih
theorem rowC_len : ∀ (cs : List ChI) (ds : List Value), ds.length = cs.length → (rowC cs ds).length = 2 * cs.length
  | [], [], _ => by simp [rowC]
  | [], _ :: _, h => by simp at h
  | _ :: _, [], h => by simp at h
  | c :: cs, d :: ds, h => by
    have := rowC_len cs ds (by simpa using h)
    simp [rowC, this]
    omega
/-- Changes in memory. -/
structure ChAt (w : World) (v : Value) (cs : List ChI) (ds : List Value) : Prop where
  len : ds.length = cs.length
  src : Src w v 2 cs.length (rowC cs ds)
theorem ChAt.shape {w : World} {v : Value} {cs : List ChI} {ds : List Value} (h : ChAt w v cs ds) : ∃ A c, v = .slice A cs.length c ∧ cs.length ≤ c ∧ c ≤ 9223372036854775807 := by
  rcases h.src with ⟨rfl, h, _⟩ | ⟨a, c, rfl, _, h1, h2, _⟩
  · rw [h]; exact ⟨none, 0, rfl, Nat.le_refl _, by omega⟩
  · exact ⟨_, c, rfl, h1, h2⟩
theorem ChAt.cells {w : World} {v : Value} {cs : List ChI} {ds : List Value} (h : ChAt w v cs ds) (hp : 0 < cs.length) : ∃ b off c, v = .slice (some ⟨b, off, none⟩) cs.length c ∧ ∀ k, k < cs.length →
    w.cell? ⟨b, off + k * 2, none⟩ = some (.int .i64 (cs.getD k default).at_) ∧ w.cell? ⟨b, off + k * 2 + 1, none⟩ = some (ds.getD k undef) := by
  obtain ⟨b, off, c, rfl, h1, h2, hr⟩ := h.src.form (by rw [rowC_len _ _ h.len]; omega)
  refine ⟨b, off, c, rfl, fun k hk => ?_⟩
  obtain ⟨e1, e2⟩ := rowC_at cs ds k h.len hk
  have r1 := hr (2 * k) _ e1
  have r2 := hr (2 * k + 1) _ e2
  refine ⟨by rwa [show off + k * 2 = off + 2 * k by omega], by rwa [show off + k * 2 + 1 = off + (2 * k + 1) by omega]⟩
theorem ChAt.chg {S : Nat → Prop} {w w' : World} {v : Value} {cs : List ChI} {ds : List Value} (h : ChAt w v cs ds) (hc : Chg S w w') (hS : ∀ g, Value.blk v = some g → 0 < cs.length → ¬ S g) : ChAt w' v cs ds :=
  ⟨h.len, Src.chg h.src hc (fun g hg h0 => hS g hg h0) (by decide)⟩
theorem ChAt.up {w w' : World} {v : Value} {cs : List ChI} {ds : List Value} (h : ChAt w v cs ds) (hu : Up w w') : ChAt w' v cs ds := h.chg hu (fun _ _ _ h => h)
/-- The bytes of a head. -/
def headB (ats : List Int) : List Int := be8 1 8 ++ be8 ats.length 8 ++ (ats.map (fun a => be8 a 8)).flatten
def pad (xs : List Int) (n : Nat) : List Int := xs.take n ++ List.replicate (n - xs.length) 0
theorem pad_len (xs : List Int) (n : Nat) : (pad xs n).length = n := by simp [pad]; omega
def headI (ats : List Int) (size : Nat) : List Int := pad (headB ats) size
def headK (ats : List Int) (k : Nat) : List Int := be8 1 8 ++ be8 ats.length 8 ++ ((ats.take k).map (fun a => be8 a 8)).flatten
theorem headK_succ (ats : List Int) (k : Nat) (h : k < ats.length) : headK ats (k + 1) = headK ats k ++ be8 (ats.getD k 0) 8 := by
  have e : ats.take (k + 1) = ats.take k ++ [ats.getD k 0] := by
    rw [List.take_add_one, List.getElem?_eq_getElem h]
    simp [List.getD_eq_getElem?_getD, List.getElem?_eq_getElem h]
  unfold headK
  rw [e, List.map_append, List.flatten_append, ← List.append_assoc, List.map_singleton, List.flatten_singleton]
theorem headK_len (ats : List Int) (k : Nat) (h : k ≤ ats.length) : (headK ats k).length = 16 + 8 * k := by
  induction k with
  | zero => simp [headK, be8_len]
  | succ k ih => rw [headK_succ ats k (by omega), List.length_append, be8_len, ih (by omega)]; omega
theorem headK_all (ats : List Int) : headK ats ats.length = headB ats := by simp [headK, headB]
def atsOf (cs : List ChI) : List Int := cs.map (·.at_)
/-- A wal. -/
structure WalAt (w : World) (q p : Nat) (home : Int) (dn : Bool) : Prop where
  obj : w.heap[q]? = some (.cells #[.pointer (some ⟨p, 0, none⟩), .int .i64 home, .bool dn] 91 (0, 0))
theorem u8s_take (xs : List Int) (n : Nat) : u8s (xs.take n) = (u8s xs).take n := by simp [u8s, List.map_take]
set_option maxRecDepth 100000 in
set_option maxHeartbeats 4000000 in
theorem head_any (w : World) (q p b : Nat) (sv : Value) (x : Dk) (kk : Nat) (home : Int) (dn : Bool) (hw : WalAt w q p home dn) (hd : DskV w p b sv x kk) (hz : x.size ≤ 4096) (hz16 : 16 ≤ x.size) (v : Value) (cs : List ChI) (ds : List Value) (h : ChAt w v cs ds) (hn : cs.length ≤ 1000) (hI : ∀ j, j < cs.length → I64 (cs.getD j default).at_) (hone : ∀ j, j < cs.length → ∃ A n c, ds.getD j undef = .slice A n c) :
    Calls Try.prog 81 #[.pointer (some ⟨q, 0, none⟩), v] w (fun e w' => ∃ u, e = .returned u ∧ w'.ownsRow w.heap.size 5 1 u (headI (atsOf cs) x.size).length (u8s (headI (atsOf cs) x.size)) ∧ Below w.heap.size w w') := by
  obtain ⟨A, c, rfl, hc1, hc2⟩ := h.shape
  have HO := Lib.hid h
  have HWL := Lib.hid hw
  have HD := Lib.hid hd
  have HI := Lib.hid hI
  have HONE := Lib.hid hone
  have HOUT : Hid (OutAt (w.alloc (.cells #[.slice none 0 0] 124)) w.heap.size (.slice none 0 0) []) := Lib.hid ⟨heap_alloc_last w _, World.ownsRow_nil _ _ _ _⟩
  have HU0 : Hid (Up w (w.alloc (.cells #[.slice none 0 0] 124))) := Lib.hid ((Chg.refl _ w).alloc _)
  have HI1 := Lib.hid (oint_any _ _ _ _ HOUT.out (by simp) 1 (by unfold I64; omega))
  clear h hw hd hI hone HOUT
  go_enter Try.func81, Try.ntmps81
  go_wp2_with fail
  refine HI1.out.mono ?_
  rintro e w1 hp
  obtain ⟨rfl, sv1, ho1, hown1, hch1⟩ := hp
  have hlow1 : ∀ j, OwnO w.heap.size sv1 j → w.heap.size ≤ j := fun j hj => (hown1 j hj).elim (fun h => h.elim (fun e => by omega) (fun h => by simp [Value.ownBlock] at h)) (fun h => by simp at h; omega)
  have hlow0 : ∀ j, OwnO w.heap.size (.slice none 0 0) j → w.heap.size ≤ j := fun j hj => hj.elim (fun e => by omega) (fun h => by simp [Value.ownBlock] at h)
  have HC1 : Hid (Chg (fun i => w.heap.size ≤ i) w w1) := Lib.hid ((HU0.out.mono (fun _ _ h => h.elim)).then hch1 (fun j hj => .inl (hlow0 j hj)))
  have HI2 := Lib.hid (oint_any w1 _ _ _ ho1 (by simp [be8_len]) (cs.length : Int) (by unfold I64; omega))
  have HLOW1 := Lib.hid hlow1
  clear ho1 hown1 hch1 hlow1 hlow0 HI1
  go_wp2_with fail
  refine HI2.out.mono ?_
  rintro e w2 hp
  obtain ⟨rfl, sv2, ho2, hown2, hch2⟩ := hp
  have HC2 := Lib.hid (HC1.out.then hch2 (fun j hj => .inl (HLOW1.out j hj)))
  have HO2 := Lib.hid ho2
  have hsz1 := HC1.out.size
  have HLOW2 : Hid (∀ j, OwnO w.heap.size sv2 j → w.heap.size ≤ j) := Lib.hid (fun j hj => (hown2 j hj).elim (fun h => HLOW1.out j h) (fun h => by omega))
  have hk0 : [] ++ be8 1 8 ++ be8 (cs.length : Int) 8 = headK (atsOf cs) 0 := by simp [headK, atsOf]
  rw [hk0] at HO2
  clear ho2 hown2 hch2 HI2 hk0
  go_wp2_with fail
  go_loopw [18] (fun t wr => ∃ (k : Nat) (sv' : Value), k ≤ cs.length ∧ t = .int .i64 k ∧ OutAt wr w.heap.size sv' (headK (atsOf cs) k) ∧ (∀ j, OwnO w.heap.size sv' j → w.heap.size ≤ j) ∧ Chg (fun i => w.heap.size ≤ i) w wr) (fun t _ => cs.length - (intOf t).toNat)
  case atStart => exact ⟨0, sv2, by omega, rfl, HO2.out, HLOW2.out, HC2.out⟩
  case round =>
    rename World => wr
    obtain ⟨k, sv', hk, rfl, ho, hlow, hch⟩ := hrel
    by_cases hk2 : (k : Int) < cs.length
    · have hcc := HO.out.up (hch.below_none (fun i hi h => by omega) |> up_below)
      obtain ⟨bb, off, cc, he, hcells⟩ := hcc.cells (by omega)
      injection he with e1 e2 e3
      subst e1 e3
      obtain ⟨r0, r1⟩ := hcells k (by omega)
      obtain ⟨A1, n1, c1, hde⟩ := HONE.out k (by omega)
      have hia := HI.out k (by omega)
      rw [hde] at r1
      obtain ⟨a, ha⟩ : ∃ a, (cs.getD k default).at_ = a := ⟨_, rfl⟩
      rw [ha] at r0 hia
      have hks := headK_succ (atsOf cs) k (by simp [atsOf]; omega)
      have hga : (atsOf cs).getD k 0 = a := by rw [← ha]; simp [atsOf, List.getD_eq_getElem?_getD, List.getElem?_eq_getElem (show k < cs.length by omega)]
      rw [hga] at hks
      have hkl := headK_len (atsOf cs) k (by simp [atsOf]; omega)
      have hu : Up wr (wr.alloc (.cells #[.int .i64 a, .slice A1 n1 c1] 89)) := (Chg.refl _ wr).alloc _
      have HIN := Lib.hid (oint_any _ _ _ _ (ho.up hu) (by rw [hkl]; omega) a hia)
      have HLOW := Lib.hid hlow
      have HCH := Lib.hid (hch.then hu (fun _ h => h.elim))
      have HKS := Lib.hid hks
      have hszr := hch.size
      clear ho hlow hch hcc hcells hde hia ha hks hga hkl hu
      go_wp2_with fail
      refine HIN.out.mono ?_
      rintro e w5 hp
      obtain ⟨rfl, sv5, ho5, hown5, hch5⟩ := hp
      rw [← HKS.out] at ho5
      have HO5 := Lib.hid ho5
      have HLOW5 : Hid (∀ j, OwnO w.heap.size sv5 j → w.heap.size ≤ j) := Lib.hid (fun j hj => (hown5 j hj).elim (fun h => HLOW.out j h) (fun h => by simp at h; omega))
      have HC5 := Lib.hid (HCH.out.then hch5 (fun j hj => .inl (HLOW.out j hj)))
      clear ho5 hown5 hch5 HIN
      go_wp2_with fail
      exact ⟨⟨k + 1, sv5, by omega, by go_num, HO5.out, HLOW5.out, HC5.out⟩, by simp [intOf]; omega⟩
    · obtain rfl : k = cs.length := by omega
      have hup := (hch.below_none (fun i hi h => by omega) |> up_below)
      have hq0 := cell_of_row wr q 0 _ _ _ (hup.heap HWL.out.obj (fun h => h))
      have HDS := Lib.hid (vsize wr p b sv x kk (HD.out.up hup))
      have HOX := Lib.hid ho
      have HCH := Lib.hid hch
      clear ho hch hup
      go_wp2_with fail
      refine HDS.out.mono ?_
      rintro e w6 ⟨rfl, rfl⟩
      rename World => wr
      obtain ⟨i5, hi, hz5, hs5, hb5⟩ := info_parts (P := Try.prog) (e := 5) (z := .int .u8 0) (size := 1) (bytes := 1) (by kernel_rfl)
      have hm3 : i5.bytes * x.size ≤ 281474976710656 := by rw [hb5]; omega
      have hm4 : x.size ≤ maxLen := by unfold maxLen; omega
      have hwz := HCH.out.size
      obtain ⟨n, hn⟩ : ∃ n, x.size = n := ⟨_, rfl⟩
      have HNS := Lib.hid hn
      rw [hn] at hm3 hm4
      have hzn : n ≤ 4096 := by omega
      have hzn2 : 16 ≤ n := by omega
      clear HDS
      rw [hn]
      clear hn
      go_wp2_with (refine wpList_make_full _ rfl (.tmp 31) (.tmp 31) 28 rfl w.heap.size 5 i5 _ 1 Try.underlying28 hi hz5 hs5 .i64 .i64 n n n rfl rfl rfl rfl hm3 hm4 hwz ?_; intro w7 hr7 hg7)
      have hu7 : Up wr w7 := (Chg.of_grownBy hg7).mono (fun i _ hi => by cases hi)
      have hkl := headK_len (atsOf cs) cs.length (by simp [atsOf])
      have hha : headK (atsOf cs) cs.length = headB (atsOf cs) := by have := headK_all (atsOf cs); simpa [atsOf] using this
      rw [hha] at hkl
      have ho7 := HOX.out.up hu7
      rw [hha] at ho7
      have HALL := Lib.hid (oall_any w7 _ _ _ ho7 (by rw [hkl]; omega))
      have HR7 : Hid (∃ cur : Array Value, w7.heap[wr.heap.size]? = some (.cells cur 5 (0, 0)) ∧ cur.toList = List.replicate n (.int .u8 0)) := Lib.hid (by
        rw [show (madeCells (Value.int .u8 0).cells (n * 1)).toList = List.replicate n (.int .u8 0) from by rw [Nat.mul_one]; exact toList_madeCells_one _ _] at hr7
        rcases hr7.2 with ⟨h, _⟩ | ⟨g, cap, cur, he, _, hh, _, _, h3, h4⟩
        · cases h
        · injection he with e1 _ e3
          injection e1 with e1
          injection e1 with e1 _ _
          subst e1 e3
          refine ⟨cur, hh, ?_⟩
          rw [← h4, List.take_of_length_le (by simp [h3])])
      have HC7 := Lib.hid (HCH.out.then hu7 (fun _ h => h.elim))
      clear hr7 hg7 hu7 ho7 hi hz5 hs5 hb5 hm3 hm4 hq0
      refine HALL.out.mono ?_
      rintro e w8 ⟨u, rfl, hu8, hb8⟩
      obtain ⟨A8, c8, rfl⟩ := own_shape hu8
      obtain ⟨cur, hcur, hcl⟩ := HR7.out
      obtain ⟨lc, hlc⟩ : ∃ lc, cur.toList = lc := ⟨_, rfl⟩
      have hcura : cur = lc.toArray := by rw [← hlc]
      subst hcura
      rw [hlc] at hcl
      subst hcl
      have hh8 := (up_below hb8).heap hcur (fun h => h)
      have hlen8 : ((u8s (headB (atsOf cs))).take n).length = Nat.min (headB (atsOf cs)).length n := by
        rw [List.length_take, u8s_len]
        exact Nat.min_comm _ _
      have hpos8 : 0 < ((u8s (headB (atsOf cs))).take n).length → some (⟨wr.heap.size, 0, none⟩ : Addr) = some ⟨wr.heap.size, 0, none⟩ ∧ ∃ ad, A8 = some ad ∧ ∀ j v, ((u8s (headB (atsOf cs))).take n)[j]? = some v → w8.cell? (ad.add j) = some v := fun h0 => by
        refine ⟨rfl, ?_⟩
        rcases hu8.2 with ⟨h, hz⟩ | ⟨g, cap, cu, he, _⟩
        · omega
        · injection he with e1 _ _
          subst e1
          refine ⟨_, rfl, fun j v hj => ?_⟩
          have hj' : j < n := by have := (List.getElem?_eq_some_iff.1 hj).1; rw [List.length_take] at this; omega
          rw [List.getElem?_take_of_lt hj'] at hj
          exact World.ownsRow.cells hu8 rfl j v hj
      have hfit8 : 0 + ((u8s (headB (atsOf cs))).take n).length ≤ (List.replicate n (Value.int .u8 0)).length := by simp; omega
      have hone8 : ∀ u ∈ (u8s (headB (atsOf cs))).take n, u.oneCell' = true := fun u hu => u8s_one _ u (List.mem_of_mem_take hu)
      have hb07 : Below w.heap.size w w8 := (HC7.out.then (up_below hb8) (fun _ h => h.elim)).below (Nat.le_refl _) (fun _ h => h)
      have HHEAD : Hid (u8s (headI (atsOf cs) n) = splice (List.replicate n (Value.int .u8 0)) 0 ((u8s (headB (atsOf cs))).take n)) := Lib.hid (by
        unfold headI pad splice
        simp [u8s, List.map_take]
        omega)
      have hle8 := hb8.size
      clear HALL HR7 HC7 hu8 hb8 hcur hha hlc
      have HKL := Lib.hid hkl
      clear hkl
      have hcl0 : 0 < ((u8s (headB (atsOf cs))).take n).length := by rw [List.length_take, u8s_len, HKL.out]; omega
      obtain ⟨_, ad, hA8, hcells8⟩ := hpos8 hcl0
      subst hA8
      have hrun := run_copy_row (P := Try.prog) w8 28 28 3 5 wr.heap.size 0 n n ad (headB (atsOf cs)).length c8 _ 5 ((u8s (headB (atsOf cs))).take n) Try.underlying28 (by kernel_rfl) hh8 hlen8 hcells8 (by simpa using hfit8) hone8
      obtain ⟨X, hX⟩ : ∃ X, X = ((List.replicate n (Value.int .u8 0)).toArray.toList.take 0 ++ (u8s (headB (atsOf cs))).take n ++ (List.replicate n (Value.int .u8 0)).toArray.toList.drop (0 + ((u8s (headB (atsOf cs))).take n).length)).toArray := ⟨_, rfl⟩
      rw [← hX] at hrun
      have hset : (w8.setRow wr.heap.size X).heap[wr.heap.size]? = some (.cells X 5 (0, 0)) := setRow_heap w8 _ _ _ 5 _ hh8
      have hbel := below_setRow hb07 hwz X
      have hXe : X = (splice (List.replicate n (Value.int .u8 0)) 0 ((u8s (headB (atsOf cs))).take n)).toArray := by rw [hX]; simp [splice]
      obtain ⟨w9, hw9⟩ : ∃ w9, w8.setRow wr.heap.size X = w9 := ⟨_, rfl⟩
      rw [hw9] at hset hbel hrun
      rw [hXe] at hset
      have hg9 : Hid (w9.heap[wr.heap.size]? = some (.cells (splice (List.replicate n (Value.int .u8 0)) 0 ((u8s (headB (atsOf cs))).take n)).toArray 5 (0, 0))) := Lib.hid hset
      have HB9 := Lib.hid hbel
      clear hX hXe
      clear hset hbel hw9 hcl0 hcells8 hpos8
      go_wp2_with fail
      go_ret
      have hg9' := hg9.out
      rw [← HHEAD.out] at hg9'
      rw [HNS.out]
      have hll : (headI (atsOf cs) n).length = n := pad_len _ _
      refine ⟨.slice (some ⟨wr.heap.size, 0, none⟩) n n, rfl, ⟨by rw [u8s_len]; omega, .inr ⟨wr.heap.size, n, _, by rw [hll], hwz, hg9', by omega, by unfold maxLen; omega, by simp [u8s, hll], ?_⟩⟩, HB9.out⟩
      rw [hll]
      exact List.take_of_length_le (by rw [List.toList_toArray, u8s_len]; omega)
end Go.Proofs.Ytkndnlhlglgmfaa
namespace Go.Proofs.Ytkndnlhlglgmfaa
open Go.RowKit
/-- How many noughts there are. -/
def cnt0 (xs : List Int) : Nat := (xs.filter (fun x => x == 0)).length
theorem cnt0_eq : ∀ (xs : List Int), Bytes xs → Lib.countByte (Lib.bytesOf xs) 0 = cnt0 xs
  | [], _ => rfl
  | x :: xs, h => by
    have ih := cnt0_eq xs (bytes_tail h)
    have hx := h 0
    simp only [List.getD_cons_zero] at hx
    have e1 : (x.toNat.toUInt8 == (0 : UInt8)) = (x == 0) := by
      rw [Bool.eq_iff_iff]
      simp only [beq_iff_eq]
      constructor
      · intro he
        have := congrArg UInt8.toNat he
        simp at this
        omega
      · rintro rfl; rfl
    unfold Lib.countByte Lib.bytesOf cnt0 at ih ⊢
    rw [List.map_cons, List.count_cons, List.filter_cons, e1, ih]
    split <;> simp
theorem cnt0_all {xs : List Int} : cnt0 xs = xs.length ↔ xs = List.replicate xs.length 0 := by
  unfold cnt0
  rw [List.length_filter_eq_length_iff, List.eq_replicate_iff]
  simp
set_option maxRecDepth 100000 in
set_option maxHeartbeats 4000000 in
theorem count_any (w : World) (v : Value) (xs : List Int) (h : SlB w v xs) (hb : Bytes xs) (g : Nat) (hg : w.cell? ⟨g, 0, none⟩ = some (.int .u8 0)) : Calls Try.prog 77 #[v, .slice (some ⟨g, 0, none⟩) 1 1] w (fun e w' => e = .returned (.int .i64 (cnt0 xs)) ∧ w' = w) := by
  have hrun : (Extern.BytealgCount.count #[v, .int .u8 0]).run Try.prog w = .ok (.int .i64 (cnt0 xs)) w := by
    rw [← cnt0_eq xs hb]
    rcases h with ⟨rfl, h0, _⟩ | ⟨ad, c, rfl, hl, hc, hc2, hr⟩
    · obtain rfl : xs = [] := List.eq_nil_of_length_eq_zero h0
      exact Lib.run_countNil w 0 0 0
    · exact Lib.run_countAt w ad xs.length c xs rfl (fun i hi => hr i _ (u8s_at hi)) 0
  go_enter Try.func77, Try.ntmps77
  go_wp2
  rw [run_callFunc_extern Try.func91 (by kernel_rfl) (by kernel_rfl) (by kernel_rfl) (e := Extern.BytealgCount.count) (by kernel_rfl), hrun]
  simp only [Result.andThen]
  rw [Oper.upon_value]
  go_wp2
  go_ret
  exact ⟨rfl, rfl⟩
/-- For how many changes there is room. -/
def roomI (n size : Nat) (home : Int) : Int := min ((n : Int) - 1 - home) (((size : Int) - 16) / 8)
set_option maxRecDepth 100000 in
set_option maxHeartbeats 4000000 in
theorem room_any (w : World) (q p b : Nat) (sv : Value) (x : Dk) (kk : Nat) (home : Int) (dn : Bool) (hw : WalAt w q p home dn) (hd : DskV w p b sv x kk) (hn : x.has.length ≤ 65536) (hz : x.size ≤ 4096) (hz16 : 16 ≤ x.size) (hh : 0 ≤ home ∧ home ≤ 65536) :
    Calls Try.prog 29 #[.pointer (some ⟨q, 0, none⟩)] w (fun e w' => e = .returned (.int .i64 (roomI x.has.length x.size home)) ∧ Up w w') := by
  obtain ⟨n, hn'⟩ : ∃ n, x.has.length = n := ⟨_, rfl⟩
  obtain ⟨z, hz'⟩ : ∃ z, x.size = z := ⟨_, rfl⟩
  have HNN := Lib.hid hn'
  have HZZ := Lib.hid hz'
  rw [hn', hz']
  rw [hn'] at hn
  rw [hz'] at hz hz16
  obtain ⟨hh1, hh2⟩ := hh
  have HQ0 : Hid (w.drew.cell? ⟨q, 0, none⟩ = some (.pointer (some ⟨p, 0, none⟩))) := Lib.hid (cell_of_row w q 0 _ _ _ hw.obj)
  have HQ1 : Hid (w.drew.cell? ⟨q, 1, none⟩ = some (.int .i64 home)) := Lib.hid (cell_of_row w q 1 _ _ _ hw.obj)
  have HD : Hid (DskV w.drew p b sv x kk) := Lib.hid (hd.up (Chg.refl _ w).drew)
  clear hw hd hn' hz'
  unfold roomI
  go_enter Try.func29, Try.ntmps29
  go_wp2_with fail
  refine MT.region_mono Up [fun v _ => v = .pointer (some ⟨q, 0, none⟩),
      fun v _ => v = .pointer (some ⟨q, 0, none⟩),
      fun v _ => v = .pointer (some ⟨q, 0, none⟩),
      fun v _ => v = .pointer (some ⟨p, 0, none⟩),
      fun v _ => v = .int .i64 (n : Int),
      fun v _ => v = .int .i64 ((n : Int) - 1),
      fun v _ => v = .pointer (some ⟨q, 0, none⟩),
      fun v _ => v = .pointer (some ⟨q, 0, none⟩),
      fun v _ => v = .pointer (some ⟨q, 1, none⟩),
      fun v _ => v = .int .i64 home,
      fun v _ => v = .int .i64 ((n : Int) - 1 - home),
      fun v _ => v = .pointer (some ⟨q, 0, none⟩),
      fun v _ => v = .pointer (some ⟨q, 0, none⟩),
      fun v _ => v = .pointer (some ⟨q, 0, none⟩),
      fun v _ => v = .pointer (some ⟨p, 0, none⟩),
      fun v _ => v = .int .i64 (z : Int),
      fun v _ => v = .int .i64 ((z : Int) - 16),
      fun v _ => v = .int .i64 (((z : Int) - 16) / 8),
      fun v _ => v = .int .i64 (min ((n : Int) - 1 - home) (((z : Int) - 16) / 8)),
      fun v _ => v = .int .i64 (min ((n : Int) - 1 - home) (((z : Int) - 16) / 8))] (by kernel_rfl) (by kernel_rfl) (Chg.refl _) (fun _ _ _ => Chg.trans) (by simp) ?_ ?_ ?_
  · simp only [List.forall_mem_cons]
    exact ⟨fun _ _ _ _ _ h => h, fun _ _ _ _ _ h => h, fun _ _ _ _ _ h => h, fun _ _ _ _ _ h => h, fun _ _ _ _ _ h => h, fun _ _ _ _ _ h => h, fun _ _ _ _ _ h => h, fun _ _ _ _ _ h => h, fun _ _ _ _ _ h => h, fun _ _ _ _ _ h => h, fun _ _ _ _ _ h => h, fun _ _ _ _ _ h => h, fun _ _ _ _ _ h => h, fun _ _ _ _ _ h => h, fun _ _ _ _ _ h => h, fun _ _ _ _ _ h => h, fun _ _ _ _ _ h => h, fun _ _ _ _ _ h => h, fun _ _ _ _ _ h => h, fun _ _ _ _ _ h => h, by simp⟩
  · refine ⟨?_, ?_, ?_, ?_, ?_, ?_, ?_, ?_, ?_, ?_, ?_, ?_, ?_, ?_, ?_, ?_, ?_, ?_, ?_, ?_, trivial⟩
    · intro ρ w1 hw h0 hc hg hf hd
      have s0 : ρ (.tmp 0) = .pointer (some ⟨q, 0, none⟩) := h0 0 (by kernel_rfl)
      refine ⟨fun _ => ?_, fun h => by cases h⟩
      clear h0 hg hd
      exact gives_move rfl ⟨Chg.refl _ _, s0⟩
    · intro ρ w1 hw h0 hc hg hf hd
      have d0 := hd ⟨0, .data⟩ (by simp) rfl _ _ _ rfl rfl rfl
      refine ⟨fun _ => ?_, fun h => by cases h⟩
      clear h0 hg hd
      clear hf hc
      refine Gives.value (w' := w1) ?_ ⟨Chg.refl _ _, rfl⟩
      go_simp
    · intro ρ w1 hw h0 hc hg hf hd
      have d1 := hd ⟨1, .data⟩ (by simp) rfl _ _ _ rfl rfl rfl
      refine ⟨fun _ => ?_, fun h => by cases h⟩
      clear h0 hg hd
      clear hf hc
      refine Gives.value (w' := w1) ?_ ⟨Chg.refl _ _, rfl⟩
      go_simp
    · intro ρ w1 hw h0 hc hg hf hd
      have d2 := hd ⟨2, .data⟩ (by simp) rfl _ _ _ rfl rfl rfl
      refine ⟨fun _ => ?_, fun h => by cases h⟩
      clear h0 hg hd
      clear hc hf
      have c1 := hw.cell HQ0.out (fun h => h)
      refine Gives.value (w' := w1) ?_ ⟨Chg.refl _ _, rfl⟩
      go_simp
    · intro ρ w1 hw h0 hc hg hf hd
      have d3 := hd ⟨3, .data⟩ (by simp) rfl _ _ _ rfl rfl rfl
      refine ⟨fun _ => ?_, fun h => by cases h⟩
      clear h0 hg hd
      refine gives_call rfl hf Try.func53 rfl (by kernel_rfl) (args := #[.pointer (some ⟨p, 0, none⟩)]) (by simp [d3]) ((vsectors w1 p b sv x kk (HD.out.up hw)).mono ?_)
      rintro e w2 ⟨rfl, rfl⟩
      exact ⟨_, rfl, Chg.refl _ _, by rw [HNN.out]⟩
    · intro ρ w1 hw h0 hc hg hf hd
      have d4 := hd ⟨4, .data⟩ (by simp) rfl _ _ _ rfl rfl rfl
      refine ⟨fun _ => ?_, fun h => by cases h⟩
      clear h0 hg hd
      clear hf
      refine Gives.value (w' := w1) ?_ ⟨Chg.refl _ _, rfl⟩
      go_simp
      exact wrap_in (by omega) (by omega)
    · intro ρ w1 hw h0 hc hg hf hd
      have s0 : ρ (.tmp 0) = .pointer (some ⟨q, 0, none⟩) := h0 0 (by kernel_rfl)
      refine ⟨fun _ => ?_, fun h => by cases h⟩
      clear h0 hg hd
      exact gives_move rfl ⟨Chg.refl _ _, s0⟩
    · intro ρ w1 hw h0 hc hg hf hd
      have d6 := hd ⟨6, .data⟩ (by simp) rfl _ _ _ rfl rfl rfl
      refine ⟨fun _ => ?_, fun h => by cases h⟩
      clear h0 hg hd
      clear hf hc
      refine Gives.value (w' := w1) ?_ ⟨Chg.refl _ _, rfl⟩
      go_simp
    · intro ρ w1 hw h0 hc hg hf hd
      have d7 := hd ⟨7, .data⟩ (by simp) rfl _ _ _ rfl rfl rfl
      refine ⟨fun _ => ?_, fun h => by cases h⟩
      clear h0 hg hd
      clear hf hc
      refine Gives.value (w' := w1) ?_ ⟨Chg.refl _ _, rfl⟩
      go_simp
    · intro ρ w1 hw h0 hc hg hf hd
      have d8 := hd ⟨8, .data⟩ (by simp) rfl _ _ _ rfl rfl rfl
      refine ⟨fun _ => ?_, fun h => by cases h⟩
      clear h0 hg hd
      clear hc hf
      have c1 := hw.cell HQ1.out (fun h => h)
      refine Gives.value (w' := w1) ?_ ⟨Chg.refl _ _, rfl⟩
      go_simp
    · intro ρ w1 hw h0 hc hg hf hd
      have d5 := hd ⟨5, .data⟩ (by simp) rfl _ _ _ rfl rfl rfl
      have d9 := hd ⟨9, .data⟩ (by simp) rfl _ _ _ rfl rfl rfl
      refine ⟨fun _ => ?_, fun h => by cases h⟩
      clear h0 hg hd
      clear hf
      refine Gives.value (w' := w1) ?_ ⟨Chg.refl _ _, rfl⟩
      go_simp
      exact wrap_in (by omega) (by omega)
    · intro ρ w1 hw h0 hc hg hf hd
      have s0 : ρ (.tmp 0) = .pointer (some ⟨q, 0, none⟩) := h0 0 (by kernel_rfl)
      refine ⟨fun _ => ?_, fun h => by cases h⟩
      clear h0 hg hd
      exact gives_move rfl ⟨Chg.refl _ _, s0⟩
    · intro ρ w1 hw h0 hc hg hf hd
      have d11 := hd ⟨11, .data⟩ (by simp) rfl _ _ _ rfl rfl rfl
      refine ⟨fun _ => ?_, fun h => by cases h⟩
      clear h0 hg hd
      clear hf hc
      refine Gives.value (w' := w1) ?_ ⟨Chg.refl _ _, rfl⟩
      go_simp
    · intro ρ w1 hw h0 hc hg hf hd
      have d12 := hd ⟨12, .data⟩ (by simp) rfl _ _ _ rfl rfl rfl
      refine ⟨fun _ => ?_, fun h => by cases h⟩
      clear h0 hg hd
      clear hf hc
      refine Gives.value (w' := w1) ?_ ⟨Chg.refl _ _, rfl⟩
      go_simp
    · intro ρ w1 hw h0 hc hg hf hd
      have d13 := hd ⟨13, .data⟩ (by simp) rfl _ _ _ rfl rfl rfl
      refine ⟨fun _ => ?_, fun h => by cases h⟩
      clear h0 hg hd
      clear hc hf
      have c1 := hw.cell HQ0.out (fun h => h)
      refine Gives.value (w' := w1) ?_ ⟨Chg.refl _ _, rfl⟩
      go_simp
    · intro ρ w1 hw h0 hc hg hf hd
      have d14 := hd ⟨14, .data⟩ (by simp) rfl _ _ _ rfl rfl rfl
      refine ⟨fun _ => ?_, fun h => by cases h⟩
      clear h0 hg hd
      refine gives_call rfl hf Try.func58 rfl (by kernel_rfl) (args := #[.pointer (some ⟨p, 0, none⟩)]) (by simp [d14]) ((vsize w1 p b sv x kk (HD.out.up hw)).mono ?_)
      rintro e w2 ⟨rfl, rfl⟩
      exact ⟨_, rfl, Chg.refl _ _, by rw [HZZ.out]⟩
    · intro ρ w1 hw h0 hc hg hf hd
      have d15 := hd ⟨15, .data⟩ (by simp) rfl _ _ _ rfl rfl rfl
      refine ⟨fun _ => ?_, fun h => by cases h⟩
      clear h0 hg hd
      clear hf
      refine Gives.value (w' := w1) ?_ ⟨Chg.refl _ _, rfl⟩
      go_simp
      exact wrap_in (by omega) (by omega)
    · intro ρ w1 hw h0 hc hg hf hd
      have d16 := hd ⟨16, .data⟩ (by simp) rfl _ _ _ rfl rfl rfl
      refine ⟨fun _ => ?_, fun h => by cases h⟩
      clear h0 hg hd
      clear hf
      refine Gives.value (w' := w1) ?_ ⟨Chg.refl _ _, rfl⟩
      go_simp
      rw [Int.tdiv_eq_ediv_of_nonneg (by omega)]
      exact wrap_in (by omega) (by omega)
    · intro ρ w1 hw h0 hc hg hf hd
      have d10 := hd ⟨10, .data⟩ (by simp) rfl _ _ _ rfl rfl rfl
      have d17 := hd ⟨17, .data⟩ (by simp) rfl _ _ _ rfl rfl rfl
      refine ⟨fun _ => ?_, fun h => by cases h⟩
      clear h0 hg hd
      clear hf
      refine Gives.value (w' := w1) ?_ ⟨Chg.refl _ _, rfl⟩
      go_simp
    · intro ρ w1 hw h0 hc hg hf hd
      have d18 := hd ⟨18, .data⟩ (by simp) rfl _ _ _ rfl rfl rfl
      refine ⟨fun _ => ?_, fun h => by cases h⟩
      clear h0 hg hd
      clear hf hc
      refine Gives.value (w' := w1) ?_ ⟨Chg.refl _ _, rfl⟩
      go_simp
  · intro vs w2 hw hr
    have h19 := hr 19 _ rfl
    clear hr
    dsimp only [putsL, restL]
    simp only [Act.put, List.setIfInBounds_toArray, List.set_cons_zero, List.set_cons_succ]
    simp only [Nat.zero_add, Nat.reduceAdd]
    rw [h19]
    have HU : Hid (Up w w2) := Lib.hid ((Chg.refl (fun _ => False) w).drew.trans hw)
    clear hw h19
    go_wp2_with fail
    go_ret
    exact ⟨rfl, HU.out⟩
end Go.Proofs.Ytkndnlhlglgmfaa
namespace Go.Proofs.Ytkndnlhlglgmfaa
open Go.RowKit
theorem info89z : (Try.prog.info? 89).map (fun i => (i.zero, i.size, i.bytes)) = some (some (.agg #[.int .i64 0, .slice none 0 0]), 2, 32) := by kernel_rfl
theorem wpList_onec {ops : Array Oper} {rest : List Oper} {o : Oper} {a : Act} {w : World} {Q : Exit → Act → World → Prop} (hg : o.guard = none) (y : Operand) (ho : o.op = .buildSlice 52 1 #[(0, y)]) (f : Int) (d : Value) (hy : a.eval y = .agg #[.int .i64 f, d])
    (h : wpList Try.prog ops Q rest (a.put o.dst (.slice (some ⟨w.heap.size, 0, none⟩) 1 1)) (w.alloc (.cells #[.int .i64 f, d] 89))) : wpList Try.prog ops Q (o :: rest) a w :=
  wpList_plain hg fun _ hK => by
    obtain ⟨i, hi, hzz⟩ := Option.map_eq_some_iff.1 info89z
    simp only [Prod.mk.injEq] at hzz
    obtain ⟨hz0, hz1, hz2⟩ := hzz
    have hrun : (Instr.buildSlice 52 1 #[(0, .agg #[.int .i64 f, d])]).run Try.prog w = .ok (.slice (some ⟨w.heap.size, 0, none⟩) 1 1) (w.alloc (.cells #[.int .i64 f, d] 89)) := by
      refine run_buildSlice w 52 89 1 _ _ i _ Try.underlying52 hi hz0 (by rw [hz1]; omega) (by rw [hz1]; omega) ?_
      rw [hz1]
      exact Great.fill_whole (s := 2) (by omega) [.agg #[.int .i64 f, d]] ((Array.range (1 * 2)).map ((Value.agg #[.int .i64 0, .slice none 0 0]).cells[· % (Value.agg #[.int .i64 0, .slice none 0 0]).cells.size]!)) (by intro v hv; obtain rfl := List.mem_singleton.1 hv; rfl) (by simp)
    unfold Oper.wp execOp
    simp only [ho, Sem.run_bind, List.map_toArray, List.map_cons, List.map_nil, hy, hrun, Result.andThen_ok]
    exact hK _ _ h
def nils (n : Nat) : List Value := List.replicate n (.slice none 0 0)
def chs (l : List Int) : List ChI := l.map (fun a => ⟨a, []⟩)
theorem rowC_snoc : ∀ (cs : List ChI) (ds : List Value) (c : ChI) (d : Value), ds.length = cs.length → rowC (cs ++ [c]) (ds ++ [d]) = rowC cs ds ++ [.int .i64 c.at_, d]
  | [], [], c, d, _ => by simp [rowC]
  | [], _ :: _, _, _, h => by simp at h
  | _ :: _, [], _, _, h => by simp at h
  | c0 :: cs, d0 :: ds, c, d, h => by
    have := rowC_snoc cs ds c d (by simpa using h)
    simp [rowC, this]
theorem nils_snoc (n : Nat) : nils (n + 1) = nils n ++ [.slice none 0 0] := by unfold nils; rw [List.replicate_succ']
theorem chs_len (l : List Int) : (chs l).length = l.length := by simp [chs]
theorem rowNil (l : List Int) (a : Int) : rowC (chs (l ++ [a])) (nils (l ++ [a]).length) = rowC (chs l) (nils l.length) ++ [.int .i64 a, .slice none 0 0] := by
  have e : chs (l ++ [a]) = chs l ++ [⟨a, []⟩] := by simp [chs]
  rw [e, List.length_append, List.length_singleton, nils_snoc, rowC_snoc _ _ _ _ (by simp [nils, chs_len])]
theorem push_ch (w : World) (base : Nat) (hbase : base ≤ w.heap.size) (v : Value) (l : List Int) (hown : w.ownsRow base 89 2 v l.length (rowC (chs l) (nils l.length))) (a : Int) (hn : l.length ≤ 100000) :
    ∃ B c2 w', (Builtin.append_ #[52, 52] 52 #[v, .slice (some ⟨w.heap.size, 0, none⟩) 1 1]).run Try.prog (w.alloc (.cells #[.int .i64 a, .slice none 0 0] 89)) = .ok (.slice B (l ++ [a]).length c2) w' ∧ w'.ownsRow base 89 2 (.slice B (l ++ [a]).length c2) (l ++ [a]).length (rowC (chs (l ++ [a])) (nils (l ++ [a]).length)) ∧
      Chg (fun k => v.ownBlock = some k) w w' := by
  obtain ⟨v', w', hr, ho, hgr, _, hb⟩ := ap_run (P := Try.prog) (w.alloc (.cells #[.int .i64 a, .slice none 0 0] 89)) 52 52 base 89 (.agg #[.int .i64 0, .slice none 0 0]) 2 32 Try.underlying52 info89z rfl (by decide) v l.length _ (hown.alloc _) (.slice (some ⟨w.heap.size, 0, none⟩) 1 1) 1 [.int .i64 a, .slice none 0 0]
    (.inr ⟨_, 1, rfl, rfl, Nat.le_refl _, by omega, fun j u hu => by
      rw [addr_add, cell_of_row _ _ _ _ _ _ (heap_alloc_last w _), Nat.zero_add]
      simpa using hu⟩) (by simp [Value.oneCell']) (by omega) (by omega) (by simp; omega)
  obtain ⟨B, c2, rfl⟩ := own_shape ho
  have hl : (l ++ [a]).length = l.length + 1 := by simp
  refine ⟨B, c2, w', by rw [hl]; exact hr, ?_, ((Chg.refl _ w).alloc _).then (Chg.of_grownBy hgr) (fun i hi => .inl hi.symm)⟩
  rw [rowNil, hl]; exact ho
theorem own_ge {W : World} {base n s : Nat} {e : TypeId} {v : Value} {xs : List Value} (h : W.ownsRow base e s v n xs) (g : Nat) (hg : v.ownBlock = some g) : base ≤ g := by
  rcases h.2 with ⟨rfl, _⟩ | ⟨g', cap, cur, rfl, hb, _⟩
  · simp [Value.ownBlock] at hg
  · obtain rfl : g' = g := by simpa [Value.ownBlock] using hg
    exact hb
theorem own_ch {w : World} {base : Nat} {v : Value} {l : List Int} (h : w.ownsRow base 89 2 v l.length (rowC (chs l) (nils l.length))) : ChAt w v (chs l) (nils l.length) := by
  refine ⟨by simp [nils, chs_len], ?_⟩
  rw [chs_len]
  rcases h.2 with ⟨hv, h0⟩ | ⟨g, cap, cur, rfl, _, _, h1, h2, _⟩
  · obtain rfl : l = [] := List.eq_nil_of_length_eq_zero h0
    exact .inl ⟨hv, rfl, rfl⟩
  · exact .inr ⟨⟨g, 0, none⟩, cap, rfl, h.1, h1, by simpa [maxLen] using h2, fun j u hu => World.ownsRow.cells h rfl j u hu⟩
/-- So many numbers, one by one. -/
def parL (home : Int) (r : List Int) (b : Bool) : Nat → List Int × List Int × Bool
  | 0 => ([], r, b)
  | k + 1 => ((parL home r b k).1 ++ [(cntI (parL home r b k).2.1 (parL home r b k).2.2 0 (home - 1)).1], (cntI (parL home r b k).2.1 (parL home r b k).2.2 0 (home - 1)).2)
theorem parL_len (home : Int) (r : List Int) (b : Bool) (k : Nat) : (parL home r b k).1.length = k := by
  induction k with
  | zero => rfl
  | succ k ih => simp [parL, ih]
/-- What a head names, and is it right? -/
def parseI (bs : List Int) (home room : Int) (size : Nat) : List Int × Bool :=
  if cnt0 bs = bs.length then ([], true) else
    let q1 := cntI bs false 1 1
    let q2 := cntI q1.2.1 q1.2.2 0 room
    let q3 := parL home q2.2.1 q2.2.2 q2.1.toNat
    (q3.1, !q3.2.2 && eqS (headI q3.1 size) bs)
theorem cntI_bd (xs : List Int) (bad : Bool) (least most : Int) (h0 : least ≤ 0) (h1 : 0 ≤ most) : least ≤ (cntI xs bad least most).1 ∧ (cntI xs bad least most).1 ≤ most := by
  unfold cntI
  split
  · exact ⟨h0, h1⟩
  · rename_i h
    simp only [not_or, Int.not_lt] at h
    exact ⟨h.2.1, h.2.2⟩
theorem cntI_len (xs : List Int) (bad : Bool) (least most : Int) : (cntI xs bad least most).2.1.length ≤ xs.length := by
  have e : (inI xs bad).2.1.length ≤ xs.length := by
    unfold inI
    split
    · exact Nat.le_refl _
    · simp
  unfold cntI
  split <;> exact e
theorem parL_bd (home : Int) (hh : 1 ≤ home) (r : List Int) (b : Bool) (k : Nat) : ∀ a ∈ (parL home r b k).1, 0 ≤ a ∧ a < home := by
  induction k with
  | zero => intro a ha; simp [parL] at ha
  | succ k ih =>
    intro a ha
    simp only [parL, List.mem_append, List.mem_singleton] at ha
    rcases ha with ha | rfl
    · exact ih a ha
    · have := cntI_bd (parL home r b k).2.1 (parL home r b k).2.2 0 (home - 1) (by omega) (by omega)
      omega
def ParsePost (w : World) (r : List Int × Bool) (e : Ending) (w' : World) : Prop := ∃ v, e = .returned (.tuple #[v, .bool r.2]) ∧ w'.ownsRow w.heap.size 89 2 v r.1.length (rowC (chs r.1) (nils r.1.length)) ∧ Below w.heap.size w w'
set_option maxRecDepth 100000 in
set_option maxHeartbeats 4000000 in
theorem parse_any (w : World) (q p b : Nat) (sv : Value) (x : Dk) (kk : Nat) (home : Int) (dn : Bool) (hw : WalAt w q p home dn) (hd : DskV w p b sv x kk) (hn : x.has.length ≤ 65536) (hz : x.size ≤ 4096) (hz16 : 16 ≤ x.size) (hh : 1 ≤ home ∧ home ≤ 65536) (hrm : 0 ≤ roomI x.has.length x.size home ∧ roomI x.has.length x.size home ≤ 600)
    (v : Value) (bs : List Int) (hv : SlB w v bs) (hb : Bytes bs) (hbl : bs.length ≤ 10000) : Calls Try.prog 59 #[.pointer (some ⟨q, 0, none⟩), v] w (ParsePost w (parseI bs home (roomI x.has.length x.size home) x.size)) := by
  obtain ⟨A, c, rfl, hc1, hc2⟩ := hv.shape
  have hu0 : Up w (w.alloc (.cells #[.int .u8 0] 5)) := (Chg.refl _ w).alloc _
  have hcell := cell_of_row (w.alloc (.cells #[.int .u8 0] 5)) w.heap.size 0 _ _ _ (heap_alloc_last w _)
  have HCT := Lib.hid (count_any (w.alloc (.cells #[.int .u8 0] 5)) (.slice A bs.length c) bs (Src.chg hv hu0 (fun _ _ _ h => h) (by decide)) hb w.heap.size hcell)
  have HWL := Lib.hid hw
  have HD := Lib.hid hd
  have HV := Lib.hid hv
  have HBY := Lib.hid hb
  have HU0 := Lib.hid hu0
  clear hw hd hv hb hu0 hcell
  unfold parseI
  by_cases hall : cnt0 bs = bs.length
  · rw [if_pos hall]
    have hall' : ((cnt0 bs : Int) == (bs.length : Int)) = true := by rw [beq_iff_eq]; omega
    go_enter Try.func59, Try.ntmps59
    go_wp2_with fail
    refine HCT.out.mono ?_
    rintro e w1 ⟨rfl, rfl⟩
    go_wp2_with fail
    go_ret2
    exact ⟨.slice none 0 0, rfl, World.ownsRow_nil _ _ _ _, HU0.out.below (Nat.le_refl _) (fun _ h => h.elim)⟩
  · rw [if_neg hall]
    have hall' : ((cnt0 bs : Int) == (bs.length : Int)) = false := by rw [beq_eq_false_iff_ne]; omega
    have HNI := Lib.hid (newin_any (w.alloc (.cells #[.int .u8 0] 5)) (.slice A bs.length c) bs (Src.chg HV.out HU0.out (fun _ _ _ h => h) (by decide)) HBY.out (by omega))
    obtain ⟨q1, hq1⟩ : ∃ q1, cntI bs false 1 1 = q1 := ⟨_, rfl⟩
    have hq1l := cntI_len bs false 1 1
    rw [hq1] at hq1l ⊢
    have HQ1 := Lib.hid hq1
    obtain ⟨room, hroom⟩ : ∃ room, roomI x.has.length x.size home = room := ⟨_, rfl⟩
    have HROOM := Lib.hid hroom
    rw [hroom] at hrm ⊢
    dsimp only
    obtain ⟨q2, hq2⟩ : ∃ q2, cntI q1.2.1 q1.2.2 0 room = q2 := ⟨_, rfl⟩
    have hq2b := cntI_bd q1.2.1 q1.2.2 0 room (by omega) hrm.1
    have hq2l := cntI_len q1.2.1 q1.2.2 0 room
    rw [hq2] at hq2b hq2l ⊢
    have HQ2 := Lib.hid hq2
    obtain ⟨n2, hn2⟩ : ∃ n2 : Nat, q2.1 = n2 := ⟨q2.1.toNat, by omega⟩
    have hn2b : n2 ≤ 600 := by omega
    have HN2 := Lib.hid hn2
    rw [hn2, Int.toNat_natCast]
    clear hq1 hroom hq2 hn2 hq2b
    go_enter Try.func59, Try.ntmps59
    go_wp2_with fail
    refine HCT.out.mono ?_
    rintro e w1 ⟨rfl, rfl⟩
    go_wp2_with fail
    refine HNI.out.mono ?_
    rintro e w2 ⟨pi, v2, rfl, hi, hpi, hbk, hbw⟩
    have hpi' : w.heap.size ≤ pi := by simp at hpi; omega
    have HC2 : Hid (Chg (fun i => w.heap.size ≤ i) w w2) := Lib.hid ((HU0.out.then (up_below hbw) (fun _ h => h.elim)).mono (fun _ _ h => h.elim))
    have hct := cnt_any w2 pi v2 bs false hi 1 1
    rw [HQ1.out] at hct
    have HCN := Lib.hid hct
    have HBK : Hid (∀ g, Value.blk v2 = some g → 0 < bs.length → w.heap.size ≤ g) := Lib.hid (fun g hg h0 => by have := hbk g hg h0; simp at this; omega)
    clear hi hpi hbk hbw hct HCT HNI
    go_wp2_with fail
    refine HCN.out.mono ?_
    rintro e w3 hp
    obtain ⟨v3, rfl, hi3, hb3, hc3⟩ := hp
    have HC3 := Lib.hid (HC2.out.then hc3 (fun i hi => .inl (by rw [hi]; exact hpi')))
    have HI3 := Lib.hid hi3
    have hbk3 : ∀ g, Value.blk v3 = some g → 0 < q1.2.1.length → w.heap.size ≤ g := fun g hg h0 => by
      rcases hb3 with e | e
      · rw [e] at hg; exact HBK.out g hg (by omega)
      · omega
    have HBK3 := Lib.hid hbk3
    have hup3 := HC3.out.below_none (fun i hi h => by omega) |> up_below
    have HRM := Lib.hid (room_any w3 q p b sv x kk home dn ⟨hup3.heap HWL.out.obj (fun h => h)⟩ (HD.out.up hup3) hn hz hz16 (by omega))
    rw [HROOM.out] at HRM
    clear hi3 hb3 hc3 hbk3 hup3 HCN
    go_wp2_with fail
    refine HRM.out.mono ?_
    rintro e w4 ⟨rfl, hu4⟩
    have hct := cnt_any w4 pi v3 _ _ (HI3.out.up hu4) 0 room
    rw [HQ2.out] at hct
    have HCN := Lib.hid hct
    have HC4 := Lib.hid (HC3.out.then hu4 (fun _ h => h.elim))
    clear hct hu4 HRM
    go_wp2_with fail
    refine HCN.out.mono ?_
    rintro e w5 hp
    obtain ⟨v5, rfl, hi5, hb5, hc5⟩ := hp
    rw [HN2.out]
    have HC5 := Lib.hid (HC4.out.then hc5 (fun i hi => .inl (by rw [hi]; exact hpi')))
    have HI5 := Lib.hid hi5
    have HB5 : Hid (∀ g, Value.blk v5 = some g → 0 < q2.2.1.length → g < w5.heap.size) := Lib.hid (fun g hg h0 => src_lt hi5.sl h0 (by decide) g hg)
    have HPI : Hid (pi < w5.heap.size) := Lib.hid (Array.getElem?_eq_some_iff.1 hi5.obj).1
    have hw5 := HC5.out.size
    clear hi5 hb5 hc5 HCN
    go_wp2_with fail
    go_loopw [7, 22] (fun lv t wr => ∃ (k cl : Nat) (vi : Value) (B : Option Addr), k ≤ n2 ∧ t = .int .i64 k ∧ lv = .slice B (parL home q2.2.1 q2.2.2 k).1.length cl ∧ InAt wr pi vi (parL home q2.2.1 q2.2.2 k).2.1 (parL home q2.2.1 q2.2.2 k).2.2 ∧ wr.ownsRow w5.heap.size 89 2 (.slice B (parL home q2.2.1 q2.2.2 k).1.length cl) (parL home q2.2.1 q2.2.2 k).1.length (rowC (chs (parL home q2.2.1 q2.2.2 k).1) (nils (parL home q2.2.1 q2.2.2 k).1.length)) ∧ (∀ g, Value.blk vi = some g → 0 < (parL home q2.2.1 q2.2.2 k).2.1.length → g < w5.heap.size) ∧ Chg (fun i => w.heap.size ≤ i) w wr ∧ w5.heap.size ≤ wr.heap.size) (fun _ t _ => n2 - (intOf t).toNat)
    case atStart => exact ⟨0, 0, v5, none, by omega, rfl, rfl, HI5.out, World.ownsRow_nil _ _ _ _, HB5.out, HC5.out, Nat.le_refl _⟩
    case round =>
      rename World => wr
      obtain ⟨k, cl, vi, B, hk, rfl, rfl, hi, hrow, hbi, hch, hszr⟩ := hrel
      by_cases hk2 : (k : Int) < n2
      · obtain ⟨l, hl⟩ : ∃ l, (parL home q2.2.1 q2.2.2 k).1 = l := ⟨_, rfl⟩
        have hll : l.length = k := by rw [← hl]; exact parL_len _ _ _ _
        have hll2 : l.length ≤ 600 := by omega
        clear hll
        have hct := cnt_any wr pi vi _ _ hi 0 (home - 1)
        have hs1 : (parL home q2.2.1 q2.2.2 (k + 1)).1 = l ++ [(cntI (parL home q2.2.1 q2.2.2 k).2.1 (parL home q2.2.1 q2.2.2 k).2.2 0 (home - 1)).1] := by rw [← hl]; rfl
        have hs2 : (parL home q2.2.1 q2.2.2 (k + 1)).2 = (cntI (parL home q2.2.1 q2.2.2 k).2.1 (parL home q2.2.1 q2.2.2 k).2.2 0 (home - 1)).2 := rfl
        obtain ⟨r, hr⟩ : ∃ r, cntI (parL home q2.2.1 q2.2.2 k).2.1 (parL home q2.2.1 q2.2.2 k).2.2 0 (home - 1) = r := ⟨_, rfl⟩
        rw [hr] at hct hs1 hs2
        rw [hl] at hrow ⊢
        have hup := hch.below_none (fun i hi h => by omega) |> up_below
        have hqh := cell_of_row wr q 1 _ _ _ (hup.heap HWL.out.obj (fun h => h))
        have hsub : IntKind.i64.wrap (home - 1) = home - 1 := wrap_in (by omega) (by omega)
        have HCN := Lib.hid hct
        have HROW := Lib.hid hrow
        have HCH := Lib.hid hch
        have HS1 := Lib.hid hs1
        have HS2 := Lib.hid hs2
        have HBI := Lib.hid hbi
        have HRR := Lib.hid hr
        clear hi hrow hch hct hs1 hs2 hl hr hup hbi
        go_wp2_with fail
        refine HCN.out.mono ?_
        rintro e w6 hp
        obtain ⟨v6, rfl, hi6, hb6, hc6⟩ := hp
        have hpl := HPI.out
        have hrow6 := own_chg HROW.out hc6 (fun g hg e => by have := own_ge HROW.out g hg; omega)
        have hsz6 := hc6.size
        obtain ⟨B7, c7, w7, hrun, hrow7, hc7⟩ := push_ch w6 w5.heap.size (by omega) _ l hrow6 r.1 (by omega)
        have hb6' : ∀ g, Value.blk v6 = some g → 0 < r.2.1.length → g < w5.heap.size := fun g hg h0 => by
          rcases hb6 with e | e
          · rw [e] at hg
            by_cases h1 : 0 < (parL home q2.2.1 q2.2.2 k).2.1.length
            · exact HBI.out g hg h1
            · have hlen := cntI_len (parL home q2.2.1 q2.2.2 k).2.1 (parL home q2.2.1 q2.2.2 k).2.2 0 (home - 1)
              rw [HRR.out] at hlen
              omega
          · omega
        have hi7 := hi6.chg hc7 (fun hg => by have := own_ge hrow6 pi hg; omega) (fun g hg h0 hg2 => by have := own_ge hrow6 g hg2; have := hb6' g hg h0; omega)
        have hc67 := (HCH.out.then hc6 (fun i hi => .inl (by rw [hi]; exact hpi'))).then hc7 (fun g hg => .inl (by have := own_ge hrow6 g hg; omega))
        have hsz7 := hc7.size
        rw [← HS1.out] at hrow7
        have HREL : Hid (InAt w7 pi v6 (parL home q2.2.1 q2.2.2 (k + 1)).2.1 (parL home q2.2.1 q2.2.2 (k + 1)).2.2 ∧ w7.ownsRow w5.heap.size 89 2 (.slice B7 (parL home q2.2.1 q2.2.2 (k + 1)).1.length c7) (parL home q2.2.1 q2.2.2 (k + 1)).1.length (rowC (chs (parL home q2.2.1 q2.2.2 (k + 1)).1) (nils (parL home q2.2.1 q2.2.2 (k + 1)).1.length)) ∧ (∀ g, Value.blk v6 = some g → 0 < (parL home q2.2.1 q2.2.2 (k + 1)).2.1.length → g < w5.heap.size) ∧ Chg (fun i => w.heap.size ≤ i) w w7 ∧ w5.heap.size ≤ w7.heap.size) := Lib.hid ⟨by rw [HS2.out]; exact hi7, hrow7, by rw [HS2.out]; exact hb6', hc67, by omega⟩
        have HRUN := Lib.hid hrun
        clear hi6 hb6 hc6 hrow6 hrun hrow7 hc7 hb6' hi7 hc67 HCN
        go_wp2_with (first | (at_builtin; refine wpList_run_append rfl (.tmp 24) (.tmp 33) 52 rfl _ _ rfl rfl 52 rfl HRUN.out ?_) | refine wpList_onec rfl (.tmp 32) rfl r.1 (.slice none 0 0) rfl ?_)
        exact ⟨⟨k + 1, c7, v6, B7, by omega, by go_num, by rw [HS1.out]; simp, HREL.out⟩, by simp [intOf]; omega⟩
      · obtain rfl : k = n2 := by omega
        obtain ⟨l, hl⟩ : ∃ l, (parL home q2.2.1 q2.2.2 k).1 = l := ⟨_, rfl⟩
        have hll0 : l.length = k := by rw [← hl]; exact parL_len _ _ _ _
        have hll2 : l.length ≤ 600 := by omega
        clear hll0
        have hlb : ∀ a ∈ l, 0 ≤ a ∧ a < home := by rw [← hl]; exact parL_bd home hh.1 _ _ _
        obtain ⟨rest, hrest⟩ : ∃ r, (parL home q2.2.1 q2.2.2 k).2.1 = r := ⟨_, rfl⟩
        obtain ⟨bad, hbad⟩ : ∃ r, (parL home q2.2.1 q2.2.2 k).2.2 = r := ⟨_, rfl⟩
        rw [hl] at hrow ⊢
        rw [hbad] at hi
        have HL := Lib.hid hl
        have HBE := Lib.hid hbad
        have HBD := Lib.hid (bad_any wr pi vi _ _ hi)
        have hup := hch.below_none (fun i hi h => by omega) |> up_below
        have hchs := own_ch hrow
        have hl2 : (chs l).length = l.length := chs_len l
        have HHD := Lib.hid (head_any wr q p b sv x kk home dn ⟨hup.heap HWL.out.obj (fun h => h)⟩ (HD.out.up hup) hz hz16 _ (chs l) _ hchs (by rw [hl2]; omega) (fun j hj => by
          rw [hl2] at hj
          have := hlb (l.getD j 0) (by rw [List.getD_eq_getElem?_getD, List.getElem?_eq_getElem hj]; exact List.getElem_mem _)
          have e : ((chs l).getD j default).at_ = l.getD j 0 := by simp [chs, List.getD_eq_getElem?_getD, List.getElem?_eq_getElem hj]
          rw [e]; unfold I64; omega) (fun j hj => ⟨none, 0, 0, by
          rw [hl2] at hj
          simp [nils, List.getD_eq_getElem?_getD, hj]⟩))
        have hat : atsOf (chs l) = l := by simp [atsOf, chs, Function.comp_def]
        rw [hat] at HHD
        have HROW := Lib.hid hrow
        have HCH := Lib.hid hch
        clear hi hrow hch hl hbad hrest hup hchs hl2 hat hbi hlb
        go_wp2_with fail
        refine HBD.out.mono ?_
        rintro e w8 ⟨rfl, rfl⟩
        rename World => wr
        cases bad with
        | true =>
          go_wp2_with fail
          go_ret2
          rw [HL.out, HBE.out]
          exact ⟨_, rfl, own_base HROW.out hw5, HCH.out.below (Nat.le_refl _) (fun _ h => h)⟩
        | false =>
          go_wp2_with fail
          refine HHD.out.mono ?_
          rintro e w9 ⟨u, rfl, hu9, hb9⟩
          have hsl9 : SlB w9 u (headI l x.size) := slb_of hu9
          have hv9 : SlB w9 (.slice A bs.length c) bs := Src.chg (Src.chg HV.out HCH.out (fun g hg h0 hle => by have := src_lt HV.out h0 (by decide) g hg; omega) (by decide)) (up_below hb9) (fun _ _ _ h => h) (by decide)
          have HEQ := Lib.hid (equal_any w9 u (.slice A bs.length c) _ _ hsl9 hv9)
          have HROW9 := Lib.hid (own_chg HROW.out (up_below hb9) (fun _ _ h => h))
          have HCH9 := Lib.hid (HCH.out.then (up_below hb9) (fun _ h => h.elim))
          clear hu9 hb9 hsl9 hv9 HHD
          go_wp2_with fail
          refine HEQ.out.mono ?_
          rintro e w10 ⟨rfl, rfl⟩
          go_wp2_with fail
          go_ret2
          rw [HL.out, HBE.out]
          exact ⟨_, rfl, own_base HROW9.out hw5, HCH9.out.below (Nat.le_refl _) (fun _ h => h)⟩
end Go.Proofs.Ytkndnlhlglgmfaa
