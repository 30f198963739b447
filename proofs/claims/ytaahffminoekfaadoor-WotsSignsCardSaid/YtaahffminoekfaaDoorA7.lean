import Derived.Test.YtaahffminoekfaaDoorA6
namespace Go.Proofs.YtaahffminoekfaaDoor
open Go.RowKit
def be8 (n : Int) (k : Nat) : List Int := (List.range k).map fun j => n / 2 ^ (8 * (7 - j)) % 256
theorem be8_succ (n : Int) (k : Nat) : be8 n (k + 1) = be8 n k ++ [n / 2 ^ (8 * (7 - k)) % 256] := by simp [be8, List.range_succ]
theorem be8_len (n : Int) (k : Nat) : (be8 n k).length = k := by simp [be8]
def zerosOf (n : Nat) : Nat := (119 - n % 64) % 64
def padOf (n : Nat) : List Int := (128 :: List.replicate (zerosOf n) 0) ++ be8 (n * 8) 8
theorem padOf_len (n : Nat) : (padOf n).length = 9 + zerosOf n := by simp [padOf, be8]; omega
theorem padOf_bytes (n : Nat) : Bytes (padOf n) := by
  unfold padOf
  refine Bytes.append ?_ ?_
  · intro j
    rw [List.getD_eq_getElem?_getD]
    cases j with
    | zero => simp
    | succ j => simp only [List.getElem?_cons_succ, List.getElem?_replicate]; split <;> simp
  · intro j
    rw [List.getD_eq_getElem?_getD, be8, List.getElem?_map]
    cases h : (List.range 8)[j]? with
    | none => simp
    | some i => simp; omega
def byteOf (x : Int) : Nat → Int
  | 0 => x / 16777216 % 256
  | 1 => x / 65536 % 256
  | 2 => x / 256 % 256
  | _ => x % 256
def hashL (s : St) : List Int := (List.range 32).map fun j => byteOf (stget s (j / 4)) (j % 4)
def hashCells (s : St) (m : Nat) : Array Value := ((List.range 32).map fun j => Value.int .u8 (if j < 4 * m then byteOf (stget s (j / 4)) (j % 4) else 0)).toArray
theorem setRow_same (w : World) (g : Nat) (c old : Array Value) (t : TypeId) (fr : Nat × Nat) (hg : w.heap[g]? = some (.cells old t fr)) : (w.setRow g c).heap[g]? = some (.cells c t fr) := by
  simp [World.setRow, Array.getElem?_modify, hg]
theorem Chg.setRow {S : Nat → Prop} {a w : World} (h : Chg S a w) (g : Nat) (hg : S g ∨ a.heap.size ≤ g) (c : Array Value) : Chg S a (w.setRow g c) :=
  ⟨h.os, h.tape, h.output, by simpa [World.setRow] using h.size, fun i hi hn => (setRow_other w g i c (by
    rintro rfl
    rcases hg with hg | hg
    · exact hn hg
    · omega)).trans (h.block i hi hn)⟩
theorem all_one {cs : List Value} (h : ∀ v ∈ cs, v.oneCell' = true) : cs.toArray.all (·.oneCell') = true :=
  Array.all_eq_true_iff_forall_mem.2 (fun v hv => h v (by simpa using hv))
theorem hashCells_zero (s : St) (m i : Nat) (h : m < 8) (hi : i < 4) : (hashCells s m)[4 * m + i]? = some (.int .u8 0) := by
  match m, h, i, hi with
  | 0, _, 0, _ | 0, _, 1, _ | 0, _, 2, _ | 0, _, 3, _ | 1, _, 0, _ | 1, _, 1, _ | 1, _, 2, _ | 1, _, 3, _ | 2, _, 0, _ | 2, _, 1, _ | 2, _, 2, _ | 2, _, 3, _ | 3, _, 0, _ | 3, _, 1, _ | 3, _, 2, _ | 3, _, 3, _
  | 4, _, 0, _ | 4, _, 1, _ | 4, _, 2, _ | 4, _, 3, _ | 5, _, 0, _ | 5, _, 1, _ | 5, _, 2, _ | 5, _, 3, _ | 6, _, 0, _ | 6, _, 1, _ | 6, _, 2, _ | 6, _, 3, _ | 7, _, 0, _ | 7, _, 1, _ | 7, _, 2, _ | 7, _, 3, _ => rfl
theorem hashCells_set (s : St) (m : Nat) (h : m < 8) :
    ((((hashCells s m).setIfInBounds (4 * m) (.int .u8 (stget s m / 16777216 % 256))).setIfInBounds (4 * m + 1) (.int .u8 (stget s m / 65536 % 256))).setIfInBounds (4 * m + 2) (.int .u8 (stget s m / 256 % 256))).setIfInBounds (4 * m + 3) (.int .u8 (stget s m % 256)) = hashCells s (m + 1) := by
  match m, h with
  | 0, _ | 1, _ | 2, _ | 3, _ | 4, _ | 5, _ | 6, _ | 7, _ => rfl
theorem hashCells_all (s : St) : hashCells s 8 = (u8s (hashL s)).toArray := rfl
/-- The sum of bytes. -/
def shaI (l : List Int) : List Int := hashL (stN (l ++ padOf l.length) ((l ++ padOf l.length).length / 64))
def hashV (l : List Int) : Value := .agg (u8s l).toArray
def SumPost (l : List Int) (w : World) (e : Ending) (w' : World) : Prop := e = .returned (hashV (shaI l)) ∧ Below w.heap.size w w'
set_option maxRecDepth 100000 in
set_option maxHeartbeats 1000000 in
theorem sum_any (base p : Nat) (l : List Int) (rv : Value) (w : World) (hd : Dig w base p l rv) (hl : Bytes l) (hlen : l.length ≤ 100000000) (hla : Laid w) (h2 : 2 ≤ w.heap.size) :
    Calls Tryd.prog 26 #[.pointer (some ⟨p, 0, none⟩)] w (SumPost l w) := by
  have HD := Lib.hid hd
  have HL := Lib.hid hl
  have HLA := Lib.hid hla
  clear hd hl hla
  go_enter Tryd.func26, Tryd.ntmps26
  go_wp2_with fail
  have hd0 : Dig (w.alloc (.cells ((List.replicate 32 (Value.int .u8 0)).toArray) 25)) base p l rv := by
    have hc := (Chg.refl (fun _ => False) w).alloc (.cells ((List.replicate 32 (Value.int .u8 0)).toArray) 25)
    exact ⟨hc.heap HD.out.cells (fun h => h), own_chg HD.out.row hc (fun _ _ h => h), HD.out.pb⟩
  refine (copy_any base p l rv _ hd0).mono ?_
  rintro e W1 ⟨q, rv1, rfl, hd1, hb1⟩
  have hb1' : Below (w.heap.size + 1) (w.alloc (.cells ((List.replicate 32 (Value.int .u8 0)).toArray) 25)) W1 := by
    rw [World.size_alloc] at hb1; exact hb1
  have hd1' : Dig W1 (w.heap.size + 1) q l rv1 := by rw [World.size_alloc] at hd1; exact hd1
  have hr1 : W1.heap[w.heap.size]? = some (.cells ((List.replicate 32 (Value.int .u8 0)).toArray) 25 (0, 0)) := by
    rw [hb1'.block _ (by omega), heap_alloc_last]
  have hdp : W1.cell? ⟨p, 9, none⟩ = some (.int .i64 (l.length : Int)) := by
    have hps : p < w.heap.size := (Array.getElem?_eq_some_iff.1 HD.out.cells).1
    have := cell_of_row w p 9 _ _ _ HD.out.cells
    rw [hb1'.cell (p := ⟨p, 9, none⟩) (by show p < w.heap.size + 1; omega), World.cell?_alloc_past _ _ _ (by exact hps), this]; rfl
  have HD1 := Lib.hid hd1'
  have HB1 := Lib.hid hb1'
  have HR1 := Lib.hid hr1
  clear hd0 hd1 hb1 hd1' hb1' hr1
  have hsz1 : w.heap.size + 1 ≤ W1.heap.size := by have := HB1.out.size; simp at this; exact this
  go_wp2_with fail
  obtain ⟨W2, hW2⟩ : ∃ W2, W2 = W1.alloc (.cells #[.int .u8 128] 5) := ⟨_, rfl⟩
  rw [← hW2]
  obtain ⟨z, hz⟩ : ∃ z, zerosOf l.length = z := ⟨_, rfl⟩
  have hz63 : z ≤ 63 := by unfold zerosOf at hz; omega
  have HZ := Lib.hid hz
  have hsome : Hid (W2.ownsRow W1.heap.size 5 1 (.slice (some ⟨W1.heap.size, 0, none⟩) 1 1) 1 (u8s [128]) ∧ Below W1.heap.size W1 W2) := by
    refine ⟨?_, ?_⟩
    · refine ⟨rfl, .inr ⟨W1.heap.size, 1, #[.int .u8 128], rfl, Nat.le_refl _, ?_, Nat.le_refl _, by simp [maxLen], rfl, rfl⟩⟩
      rw [hW2, heap_alloc_last]
    · rw [hW2]; exact (Below.refl _ _).alloc (Nat.le_refl _) _
  clear hz hW2
  go_loopw [5] (fun v wr => ∃ (k c : Nat) (A : Option Addr), k ≤ z ∧ v = .slice A (k + 1) c ∧ wr.ownsRow W1.heap.size 5 1 (.slice A (k + 1) c) (k + 1) (u8s (128 :: List.replicate k 0)) ∧ Below W1.heap.size W1 wr) (fun v _ => z + 1 - slen v)
  case atStart => exact ⟨0, 1, _, Nat.zero_le _, rfl, hsome.out.1, hsome.out.2⟩
  case round =>
    obtain ⟨k, c, A, hk, rfl, ho, hb⟩ := hrel
    have hcp := hb.cell (p := ⟨p, 9, none⟩) (World.block_lt_of_cell? W1 ⟨p, 9, none⟩ hdp)
    rw [hdp] at hcp
    have HO := Lib.hid ho
    have HB := Lib.hid hb
    clear ho hb hsome
    by_cases hkz : k < z
    · have ht : (((l.length : Int) + (↑k + 1) + 8) % 64 != 0) = true := by have := HZ.out; unfold zerosOf at this; rw [bne_iff_ne]; omega
      obtain ⟨A2, c2, w2, hrun, ho2, hc2, hb2⟩ := push_run (P := Tryd.prog) wr 22 22 W1.heap.size 5 (.int .u8 0) 1 Tryd.underlying22 (by kernel_rfl) rfl _ _ _ HO.out [.int .u8 0] 1 rfl (by simp [Value.oneCell']) (by omega) (by omega) HB.out.size
      have HO2 := Lib.hid ho2
      have HC2 := Lib.hid hc2
      have HR2 := Lib.hid hrun
      clear ho2 hc2 hb2 hrun
      go_wp2_with (at_builtin; refine wpList_run_append rfl _ _ 22 rfl _ _ rfl rfl 22 rfl HR2.out ?_)
      go_roundw
      case rel =>
        refine ⟨k + 1, c2, A2, hkz, rfl, ?_, ?_⟩
        · have := HO2.out
          rw [List.replicate_succ', ← List.cons_append]
          simpa [u8s] using this
        · have h3 := (Chg.of_below (S := fun _ => False) (w := W1) ⟨HB.out.os, HB.out.tape, HB.out.output, HB.out.size, fun i hi => HB.out.block i hi⟩).then HC2.out (fun i hi => .inr (HO.out.lt i hi).1)
          exact h3.below_none (fun _ _ h => h)
      case measure => simp [slen]; omega
    · obtain rfl : k = z := by omega
      have ht : (((l.length : Int) + (↑k + 1) + 8) % 64 != 0) = false := by have := HZ.out; unfold zerosOf at this; rw [bne_eq_false_iff_eq]; omega
      go_wp2_with fail
      clear ht hcp hkz hk
      have HO0 := HO
      have HB0 := HB
      clear HO HB
      go_loopw [5, 6] (fun v i wr => ∃ (m c : Nat) (A : Option Addr), m ≤ 8 ∧ v = .slice A (k + 1 + m) c ∧ i = .int .i64 (7 - (m : Int)) ∧ wr.ownsRow W1.heap.size 5 1 (.slice A (k + 1 + m) c) (k + 1 + m) (u8s ((128 :: List.replicate k 0) ++ be8 (l.length * 8) m)) ∧ Below W1.heap.size W1 wr) (fun _ i _ => (intOf i + 1).toNat)
      case atStart => exact ⟨0, c, A, by omega, rfl, rfl, by simpa [be8] using HO0.out, HB0.out⟩
      case round =>
        clear HO0 HB0
        obtain ⟨m, c, A, hm, rfl, rfl, ho, hb⟩ := hrel
        have HO := Lib.hid ho
        have HB := Lib.hid hb
        clear ho hb
        by_cases hm8 : m < 8
        · obtain ⟨A2, c2, w2, hrun, ho2, hc2, hb2⟩ := push_run (P := Tryd.prog) wr 22 22 W1.heap.size 5 (.int .u8 0) 1 Tryd.underlying22 (by kernel_rfl) rfl _ _ _ HO.out [.int .u8 (↑l.length * 8 / 2 ^ (8 * (7 - m)) % 256)] 1 rfl (by simp [Value.oneCell']) (by omega) (by omega) HB.out.size
          have HO2 := Lib.hid ho2
          have HC2 := Lib.hid hc2
          have HR2 := Lib.hid hrun
          clear ho2 hc2 hb2 hrun
          go_wp2_with (at_builtin; refine wpList_run_append rfl _ _ 22 rfl _ _ rfl rfl 22 rfl HR2.out ?_)
          go_roundw
          case rel =>
            refine ⟨m + 1, c2, A2, hm8, rfl, by go_num, ?_, ?_⟩
            · have := HO2.out
              rw [be8_succ, ← List.append_assoc]
              simpa [u8s, Nat.add_assoc] using this
            · have h3 := (Chg.of_below (S := fun _ => False) (w := W1) ⟨HB.out.os, HB.out.tape, HB.out.output, HB.out.size, fun i hi => HB.out.block i hi⟩).then HC2.out (fun i hi => .inr (HO.out.lt i hi).1)
              exact h3.below_none (fun _ _ h => h)
          case measure => simp [intOf]; omega
        · obtain rfl : m = 8 := by omega
          have hq : q < W1.heap.size := (Array.getElem?_eq_some_iff.1 HD1.out.cells).1
          have hcb := Chg.of_below (S := fun _ => False) (w := W1) ⟨HB.out.os, HB.out.tape, HB.out.output, HB.out.size, fun i hi => HB.out.block i hi⟩
          have hdq : Dig wr (w.heap.size + 1) q l rv1 := ⟨hcb.heap HD1.out.cells (fun h => h), own_chg HD1.out.row hcb (fun _ _ h => h), HD1.out.pb⟩
          have hpad : (128 :: List.replicate k 0) ++ be8 (l.length * 8) 8 = padOf l.length := by rw [padOf, HZ.out]
          have hsl : SlB wr (.slice A (k + 1 + 8) c) (padOf l.length) := by rw [← hpad]; exact own_src HO.out
          have hla2 : Laid wr := by
            have h1 := HLA.out.chg ((Chg.refl (fun _ => False) w).alloc (.cells ((List.replicate 32 (Value.int .u8 0)).toArray) 25)) (fun h => h) (fun h => h)
            have h2 := h1.chg (S := fun i => w.heap.size + 1 ≤ i) ⟨HB1.out.os, HB1.out.tape, HB1.out.output, HB1.out.size, fun i hi hn => HB1.out.block i (by omega)⟩ (by omega) (by omega)
            exact h2.chg hcb (fun h => h) (fun h => h)
          have hwr := write_any (w.heap.size + 1) q l (padOf l.length) rv1 (.slice A (k + 1 + 8) c) wr hdq hsl (fun b hb hn => by
            have hob : (Value.slice A (k + 1 + 8) c).ownBlock = some b := by
              obtain ⟨g, cap, he, _⟩ := own_form HO.out (by omega)
              rw [he] at hb ⊢; exact hb
            have hb1 := (HO.out.lt b hob).1
            refine ⟨by omega, fun he => ?_⟩
            have := (HD1.out.row.lt b he).2
            omega) (padOf_bytes _) HL.out (by rw [padOf_len, HZ.out]; omega) hla2 (by omega)
          have HWR := Lib.hid hwr
          have HCB := Lib.hid hcb
          clear hdq hsl hla2 hwr hcb hpad
          go_wp2_with fail
          refine HWR.out.mono ?_
          rintro e W4 ⟨rv2, rfl, hd4, hc4, hb4⟩
          have hr : ∀ j, (stcells (stN (l ++ padOf l.length) ((l ++ padOf l.length).length / 64)) ++ #[rv2, .int .i64 ((l ++ padOf l.length).length : Int)])[j]? = W4.cell? ⟨q, j, none⟩ := fun j => (cell_of_row W4 q j _ _ _ hd4.cells).symm
          obtain ⟨s, hs⟩ : ∃ s, stN (l ++ padOf l.length) ((l ++ padOf l.length).length / 64) = s := ⟨_, rfl⟩
          rw [hs] at hr
          have c0 : W4.cell? ⟨q, 0, none⟩ = some (.int .u32 s.a) := (hr 0).symm
          have c1 : W4.cell? ⟨q, 1, none⟩ = some (.int .u32 s.b) := (hr 1).symm
          have c2 : W4.cell? ⟨q, 2, none⟩ = some (.int .u32 s.c) := (hr 2).symm
          have c3 : W4.cell? ⟨q, 3, none⟩ = some (.int .u32 s.d) := (hr 3).symm
          have c4 : W4.cell? ⟨q, 4, none⟩ = some (.int .u32 s.e) := (hr 4).symm
          have c5 : W4.cell? ⟨q, 5, none⟩ = some (.int .u32 s.f) := (hr 5).symm
          have c6 : W4.cell? ⟨q, 6, none⟩ = some (.int .u32 s.g) := (hr 6).symm
          have c7 : W4.cell? ⟨q, 7, none⟩ = some (.int .u32 s.h) := (hr 7).symm
          have hql : q < W4.heap.size := World.block_lt_of_cell? W4 ⟨q, 0, none⟩ c0
          have HS := Lib.hid hs
          have HD4 := Lib.hid hd4
          have HC4 := Lib.hid hc4
          clear hs hd4 hc4 hb4 hr
          go_wp2_with fail
          clear c0 c1 c2 c3 c4 c5 c6 c7
          go_loopw [51] (fun i wr => ∃ m : Nat, m ≤ 8 ∧ i = .int .i64 m ∧ wr = W4.alloc (.cells (hashCells s m) 25)) (fun i _ => 8 - (intOf i).toNat)
          case atStart => exact ⟨0, by omega, rfl, rfl⟩
          case round =>
            obtain ⟨m, hm, rfl, rfl⟩ := hrel
            by_cases hm8 : m < 8
            · have i0 : ∀ W, (Instr.index 84 (.agg #[.int .u32 s.a, .int .u32 s.b, .int .u32 s.c, .int .u32 s.d, .int .u32 s.e, .int .u32 s.f, .int .u32 s.g, .int .u32 s.h]) (.int .i64 (m : Int))).run Tryd.prog W = .ok (.int .u32 (stget s m)) W := by
                match m, hm8 with | 0, _ | 1, _ | 2, _ | 3, _ | 4, _ | 5, _ | 6, _ | 7, _ => exact fun _ => by kernel_rfl
              have z0 := hashCells_zero s m 0 hm8 (by omega)
              have z1 := hashCells_zero s m 1 hm8 (by omega)
              have z2 := hashCells_zero s m 2 hm8 (by omega)
              have z3 := hashCells_zero s m 3 hm8 (by omega)
              rw [Nat.add_zero] at z0
              go_wp2
              go_roundw
              case rel => exact ⟨m + 1, hm8, by go_num, by rw [hashCells_set s m hm8]⟩
              case measure => simp [intOf]; omega
            · obtain rfl : m = 8 := by omega
              rw [show ((8 : Nat) : Int) = 8 from rfl]
              obtain ⟨hc, hhc⟩ : ∃ hc, hashCells s 8 = hc := ⟨_, rfl⟩
              rw [hhc]
              have hsz : (Tryd.prog.info? 25).map (·.size) = some hc.size := by rw [← hhc]; exact (by kernel_rfl)
              have hone : hc.all (·.oneCell') = true := by rw [← hhc, hashCells_all]; exact all_one (u8s_one _)
              have hgl : (W4.alloc (.cells hc 25)).heap[W4.heap.size]? = some (.cells hc 25 (0, 0)) := heap_alloc_last _ _
              have hgs : (W4.alloc (.cells hc 25)).heap[w.heap.size]? = some (.cells ((List.replicate 32 (Value.int .u8 0)).toArray) 25 (0, 0)) := by
                have h1 : wr.heap[w.heap.size]? = _ := HCB.out.heap HR1.out (fun h => h)
                have h2 := HC4.out.heap h1 (by
                  rintro (h | h)
                  · have := HD1.out.pb; omega
                  · have := (HD1.out.row.lt _ h).1; omega)
                exact (Below.heap_alloc _ _ _ (Array.getElem?_eq_some_iff.1 h2).1).trans h2
              have hold : ((List.replicate 32 (Value.int .u8 0)).toArray).size = hc.size := by rw [← hhc]; rfl
              have HGL := Lib.hid hgl
              have HGS := Lib.hid hgs
              have HSZ := Lib.hid hsz
              have HON := Lib.hid hone
              have HOL := Lib.hid hold
              have HHC := Lib.hid hhc
              clear hsz hone hgl hgs hold hhc
              go_wp2_with (first
                | (refine wpList_load_row rfl 25 (.tmp 7) rfl W4.heap.size (by rfl) 25 hc (0, 0) _ HGL.out Tryd.underlying25 rfl HSZ.out ?_)
                | (refine wpList_store_row rfl 25 (.tmp 2) (.tmp 82) rfl w.heap.size hc (by rfl) (by rfl) 25 _ HGS.out HSZ.out HOL.out HON.out ?_))
              have hset := setRow_same (W4.alloc (.cells hc 25)) w.heap.size hc _ 25 (0, 0) HGS.out
              refine bodyPost_ret (v := .agg hc) (results_cell_row rfl _ _ w.heap.size 25 hc (0, 0) _ (by rfl) hset Tryd.underlying25 rfl HSZ.out) rfl ?_
              refine ⟨?_, ?_⟩
              · rw [← HHC.out, hashCells_all, ← HS.out]; rfl
              · have g1 := (Chg.refl (fun i => w.heap.size ≤ i) w).alloc (.cells ((List.replicate 32 (Value.int .u8 0)).toArray) 25)
                have g2 := g1.then (c := W1) (T := fun i => w.heap.size + 1 ≤ i) ⟨HB1.out.os, HB1.out.tape, HB1.out.output, HB1.out.size, fun i hi hn => HB1.out.block i (by omega)⟩ (fun i hi => .inl (by omega))
                have g3 := g2.then HCB.out (fun i hi => hi.elim)
                have g4 := g3.then HC4.out (fun i hi => .inl (by
                  rcases hi with h | h
                  · have := HD1.out.pb; omega
                  · have := (HD1.out.row.lt _ h).1; omega))
                have g5 := g4.alloc (.cells hc 25)
                have g6 := g5.setRow w.heap.size (.inl (Nat.le_refl _)) hc
                exact g6.below (Nat.le_refl _) (fun _ h => h)
end Go.Proofs.YtaahffminoekfaaDoor
