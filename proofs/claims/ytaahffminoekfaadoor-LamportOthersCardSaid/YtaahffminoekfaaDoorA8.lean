/-
     
-/
import Derived.Test.YtaahffminoekfaaDoorA4
import Derived.Deep.RegionLaw
namespace Go.Proofs.YtaahffminoekfaaDoor
open Go.RowKit
def WPost (base p : Nat) (l xs : List Int) (rv : Value) (w : World) (e : Ending) (w' : World) : Prop :=
  ∃ rv', e = .returned (.tuple #[]) ∧ Dig w' base p (l ++ xs) rv' ∧ Chg (fun k => k = p ∨ rv.ownBlock = some k) w w' ∧ (rv'.ownBlock = rv.ownBlock ∨ ∃ g, rv'.ownBlock = some g ∧ w.heap.size ≤ g)
def slen : Value → Nat
  | .slice _ n _ => n
  | _ => 0
theorem own_shape {w : World} {base n : Nat} {e : TypeId} {size : Nat} {v : Value} {xs : List Value} (h : w.ownsRow base e size v n xs) : ∃ A c, v = .slice A n c := by
  rcases h.2 with ⟨rfl, rfl⟩ | ⟨g, cap, cur, rfl, _⟩
  · exact ⟨none, 0, rfl⟩
  · exact ⟨_, cap, rfl⟩
theorem rest_small (l xs : List Int) (h : l.length % 64 + xs.length < 64) : (l ++ xs).length / 64 = l.length / 64 ∧ (l ++ xs).length % 64 = l.length % 64 + xs.length ∧ restOf (l ++ xs) = restOf l ++ xs := by
  have e : (l ++ xs).length / 64 = l.length / 64 := by rw [List.length_append]; omega
  refine ⟨e, by rw [List.length_append]; omega, ?_⟩
  unfold restOf
  rw [e, List.drop_append_of_le_length (by omega)]
theorem blockAt_join (l xs : List Int) (kk : Nat) (h : l.length % 64 + kk = 64) : blockAt (l ++ xs) (l.length / 64) = restOf l ++ xs.take kk := by
  unfold blockAt restOf
  rw [List.drop_append_of_le_length (by omega), List.take_append]
  have e1 : (List.drop (64 * (l.length / 64)) l).length = l.length % 64 := by simp; omega
  rw [e1, List.take_of_length_le (by rw [e1]; omega)]
  congr 2; omega
set_option maxRecDepth 100000 in
set_option maxHeartbeats 1000000 in
theorem write_small (base p : Nat) (l xs : List Int) (rv v : Value) (w : World) (hd : Dig w base p l rv) (hv : SlB w v xs)
    (hap : ∀ b, Value.blk v = some b → 0 < xs.length → b ≠ p ∧ rv.ownBlock ≠ some b) (hx : Bytes xs) (hl : Bytes l) (hlen : l.length + xs.length ≤ 1000000000) (hla : Laid w) (_hb2 : 2 ≤ base) (h0 : ¬ (l.length : Int) % 64 = 0) (hk : l.length % 64 + xs.length < 64) :
    Calls Tryd.prog 25 #[.pointer (some ⟨p, 0, none⟩), v] w (WPost base p l xs rv w) := by
  obtain ⟨A, c, rfl, hc1, hc2⟩ := hv.shape
  obtain ⟨R, rc, rfl⟩ := own_shape hd.row
  have c8 : w.cell? ⟨p, 8, none⟩ = some (.slice R (l.length % 64) rc) := cell_of_row w p 8 _ _ _ hd.cells
  have c9 : w.cell? ⟨p, 9, none⟩ = some (.int .i64 (l.length : Int)) := cell_of_row w p 9 _ _ _ hd.cells
  have f9 : w.frozen? ⟨p, 9, none⟩ = false := frozen_of_row w p 9 _ _ hd.cells
  have HD := Lib.hid hd
  have HV := Lib.hid hv
  have HA := Lib.hid hap
  have HX := Lib.hid hx
  have HL := Lib.hid hl
  have HLa := Lib.hid hla
  clear hd hv hap hx hl hla
  obtain ⟨v2, Hv2, hb2', hsl⟩ := slice_to (P := Tryd.prog) 22 5 Tryd.underlying22 (by kernel_rfl) w _ xs xs.length HV.out (Nat.le_refl _)
  obtain ⟨A2, d2, rfl, hd1, hd2⟩ := Hv2.shape
  rw [List.take_length] at Hv2 hd1 hsl hb2'
  have HV2 := Lib.hid Hv2
  have HB2 := Lib.hid hb2'
  obtain ⟨v5, _, _, hsf⟩ := slice_from (P := Tryd.prog) 22 5 Tryd.underlying22 (by kernel_rfl) w _ xs xs.length HV.out (Nat.le_refl _)
  clear Hv2 hb2'
  go_enter Tryd.func25, Tryd.ntmps25
  go_wp2_with fail
  obtain ⟨W1, hW1⟩ : ∃ W1, W1 = w.setCell ⟨p, 9, none⟩ (.int .i64 (↑l.length + ↑xs.length)) := ⟨_, rfl⟩
  rw [← hW1]
  have k1 : Chg (· = p) w W1 := by rw [hW1]; exact (Chg.refl (· = p) w).setCell ⟨p, 9, none⟩ (.inl rfl) _
  have hp1 : W1.heap[p]? = some (.cells (stcells (stN l (l.length/64)) ++ #[.slice R (l.length % 64) rc, .int .i64 (↑l.length + ↑xs.length)]) 86 (0, 0)) := by
    rw [hW1, heap_setCell_same _ _ _ _ _ _ HD.out.cells]; rfl
  have hpz : p < W1.heap.size := (Array.getElem?_eq_some_iff.1 hp1).1
  have o1 : W1.drew.ownsRow base 5 1 (.slice R (l.length % 64) rc) (l.length % 64) (u8s (restOf l)) :=
    own_chg HD.out.row k1.drew (fun k hk he => HD.out.apart (by rw [hk, he]))
  have s1 : Src W1.drew (.slice A2 xs.length d2) 1 xs.length (u8s xs) := HV2.out.chg k1.drew (fun b hb hn => (HA.out b (HB2.out ▸ hb) hn).1) (by decide)
  obtain ⟨v3, W3, hrun, ho3, hg3, hn3, hb3⟩ := ap_run (P := Tryd.prog) W1.drew 22 22 base 5 (.int .u8 0) 1 1 Tryd.underlying22 (by kernel_rfl) rfl (by decide) _ _ _ o1 _ _ _ s1 (u8s_one xs) (by omega) (by omega) (Nat.le_trans HD.out.pb (Nat.le_of_lt hpz))
  have c8' : W1.cell? ⟨p, 8, none⟩ = some (.slice R (l.length % 64) rc) := cell_of_row W1 p 8 _ _ _ hp1
  have hp3 : W3.heap[p]? = some (.cells (stcells (stN l (l.length/64)) ++ #[.slice R (l.length % 64) rc, .int .i64 (↑l.length + ↑xs.length)]) 86 (0, 0)) :=
    (Chg.of_grownBy hg3).heap (w := W1.drew) hp1 (fun he => HD.out.apart he.symm)
  have c83 : W3.cell? ⟨p, 8, none⟩ = some (.slice R (l.length % 64) rc) := cell_of_row W3 p 8 _ _ _ hp3
  have f83 : W3.frozen? ⟨p, 8, none⟩ = false := frozen_of_row W3 p 8 _ _ hp3
  obtain ⟨A3, d3, rfl⟩ := own_shape ho3
  have HO3 := Lib.hid ho3
  have HG3 := Lib.hid hg3
  have HN3 := Lib.hid hn3
  have HB3 := Lib.hid hb3
  have HP3 := Lib.hid hp3
  have HP1 := Lib.hid hp1
  clear ho3 hg3 hn3 hb3 hp3 hp1 o1 hW1
  go_region_law ((refine step_run_append (by rfl) _ _ 22 (by rfl) _ _ (by rfl) (by rfl) 22 (by rfl) hrun ?_))
  go_wp2
  refine bodyPost_ret (results_none rfl _ _ _) rfl ?_
  obtain ⟨q1, q2, q3⟩ := rest_small l xs hk
  refine ⟨.slice A3 (l.length % 64 + xs.length) d3, rfl, ⟨?_, ?_, HD.out.pb⟩, ?_, ?_⟩
  · rw [heap_setCell_same _ _ _ _ _ _ HP3.out, q1, stN_append l xs _ (by omega)]
    simp only [List.length_append, Int.natCast_add]
    rfl
  · rw [q2, q3]
    have hne : (Value.slice A3 (l.length % 64 + xs.length) d3).ownBlock ≠ some p := by
      rcases HB3.out with hb | hb
      · rw [hb]; exact HD.out.apart
      · rw [hb]; intro he; injection he with he; have : W1.drew.heap.size = W1.heap.size := rfl; omega
    have := own_chg HO3.out ((Chg.refl (· = p) W3).setCell ⟨p, 8, none⟩ (.inl rfl) (Value.slice A3 (l.length % 64 + xs.length) d3)) (fun k hk he => hne (by rw [hk, he]))
    simpa [u8s] using this
  · have := k1.drew.mono (T := fun k => k = p ∨ (Value.slice R (l.length % 64) rc).ownBlock = some k) (fun i _ hi => .inl hi)
    have := this.then (Chg.of_grownBy HG3.out) (fun i hi => .inl (.inr hi.symm))
    exact this.setCell ⟨p, 8, none⟩ (.inl (.inl rfl)) _
  · rcases HB3.out with hb | hb
    · exact .inl hb
    · exact .inr ⟨_, hb, k1.drew.size⟩
set_option maxRecDepth 100000 in
set_option maxHeartbeats 1000000 in
theorem write_any (base p : Nat) (l xs : List Int) (rv v : Value) (w : World) (hd : Dig w base p l rv) (hv : SlB w v xs)
    (hap : ∀ b, Value.blk v = some b → 0 < xs.length → b ≠ p ∧ rv.ownBlock ≠ some b) (hx : Bytes xs) (hl : Bytes l) (hlen : l.length + xs.length ≤ 1000000000) (hla : Laid w) (hb2 : 2 ≤ base) :
    Calls Tryd.prog 25 #[.pointer (some ⟨p, 0, none⟩), v] w (WPost base p l xs rv w) := by
  obtain ⟨A, c, rfl, hc1, hc2⟩ := hv.shape
  obtain ⟨R, rc, rfl⟩ := own_shape hd.row
  have c8 : w.cell? ⟨p, 8, none⟩ = some (.slice R (l.length % 64) rc) := cell_of_row w p 8 _ _ _ hd.cells
  have c9 : w.cell? ⟨p, 9, none⟩ = some (.int .i64 (l.length : Int)) := cell_of_row w p 9 _ _ _ hd.cells
  have f9 : w.frozen? ⟨p, 9, none⟩ = false := frozen_of_row w p 9 _ _ hd.cells
  have HD := Lib.hid hd
  have HV := Lib.hid hv
  have HA := Lib.hid hap
  have HX := Lib.hid hx
  have HL := Lib.hid hl
  have HLa := Lib.hid hla
  clear hd hv hap hx hl hla
  by_cases h0 : (l.length : Int) % 64 = 0
  case' neg =>
    by_cases hk : l.length % 64 + xs.length < 64
    case pos => exact write_small base p l xs _ _ w HD.out HV.out HA.out HX.out HL.out hlen HLa.out hb2 h0 hk
    obtain ⟨kk, hkk⟩ : ∃ kk, kk = 64 - l.length % 64 := ⟨_, rfl⟩
    have hr64 : l.length % 64 < 64 := Nat.mod_lt _ (by decide)
    have hkx : kk ≤ xs.length := by omega
    have hkk0 : 0 < kk := by omega
    have hmin : min (64 - (l.length : Int) % 64) (xs.length : Int) = (kk : Int) := by omega
    have HMIN := Lib.hid hmin
    obtain ⟨v2, Hv2, hb2', hsl⟩ := slice_to (P := Tryd.prog) 22 5 Tryd.underlying22 (by kernel_rfl) w _ xs kk HV.out hkx
    obtain ⟨A2, d2, hv2e, hd1, hd2⟩ := Hv2.shape
    rw [List.length_take, Nat.min_eq_left hkx] at hv2e hd1
    subst hv2e
    have HV2 := Lib.hid Hv2
    have HB2 := Lib.hid hb2'
    obtain ⟨v5, h51, h52, hsf⟩ := slice_from (P := Tryd.prog) 22 5 Tryd.underlying22 (by kernel_rfl) w _ xs kk HV.out hkx
    obtain ⟨B0, b0, hv5, h54, h55⟩ := h51.shape
    obtain ⟨n0, hn0⟩ : ∃ n0, (xs.drop kk).length = n0 := ⟨_, rfl⟩
    rw [hn0] at hv5 h54
    subst hv5
    have HN5 := Lib.hid hn0
    have H51 := Lib.hid h51
    have H52 := Lib.hid h52
    have hki : ((kk : Nat) : Int) = 64 - (l.length : Int) % 64 := by omega
    rw [hki] at hsl hsf
    have HKK := Lib.hid hkk
    clear Hv2 hb2' hn0 h51 h52 hkk hmin hki
    go_enter Tryd.func25, Tryd.ntmps25
    go_wp2_with fail
    obtain ⟨W1, hW1⟩ : ∃ W1, W1 = w.setCell ⟨p, 9, none⟩ (.int .i64 (↑l.length + ↑xs.length)) := ⟨_, rfl⟩
    rw [← hW1]
    have k1 : Chg (· = p) w W1 := by rw [hW1]; exact (Chg.refl (· = p) w).setCell ⟨p, 9, none⟩ (.inl rfl) _
    have hp1 : W1.heap[p]? = some (.cells (stcells (stN l (l.length/64)) ++ #[.slice R (l.length % 64) rc, .int .i64 (↑l.length + ↑xs.length)]) 86 (0, 0)) := by
      rw [hW1, heap_setCell_same _ _ _ _ _ _ HD.out.cells]; rfl
    have hpz : p < W1.heap.size := (Array.getElem?_eq_some_iff.1 hp1).1
    have o1 : W1.drew.ownsRow base 5 1 (.slice R (l.length % 64) rc) (l.length % 64) (u8s (restOf l)) :=
      own_chg HD.out.row k1.drew (fun k hk he => HD.out.apart (by rw [hk, he]))
    have s1 : Src W1.drew (.slice A2 kk d2) 1 kk (u8s (xs.take kk)) := by
      have := HV2.out
      unfold SlB at this
      rw [List.length_take, Nat.min_eq_left hkx] at this
      exact this.chg k1.drew (fun b hb hn => (HA.out b (HB2.out ▸ hb) (by omega)).1) (by decide)
    obtain ⟨v3, W3, hrun, ho3, hg3, hn3, hb3⟩ := ap_run (P := Tryd.prog) W1.drew 22 22 base 5 (.int .u8 0) 1 1 Tryd.underlying22 (by kernel_rfl) rfl (by decide) _ _ _ o1 _ _ _ s1 (u8s_one _) (by omega) (by omega) (Nat.le_trans HD.out.pb (Nat.le_of_lt hpz))
    have c8' : W1.cell? ⟨p, 8, none⟩ = some (.slice R (l.length % 64) rc) := cell_of_row W1 p 8 _ _ _ hp1
    have hp3 : W3.heap[p]? = some (.cells (stcells (stN l (l.length/64)) ++ #[.slice R (l.length % 64) rc, .int .i64 (↑l.length + ↑xs.length)]) 86 (0, 0)) :=
      (Chg.of_grownBy hg3).heap (w := W1.drew) hp1 (fun he => HD.out.apart he.symm)
    have c83 : W3.cell? ⟨p, 8, none⟩ = some (.slice R (l.length % 64) rc) := cell_of_row W3 p 8 _ _ _ hp3
    have f83 : W3.frozen? ⟨p, 8, none⟩ = false := frozen_of_row W3 p 8 _ _ hp3
    have hsum : l.length % 64 + kk = 64 := by have := HKK.out; omega
    rw [hsum] at ho3
    obtain ⟨g3, d3, rfl, hg3b, hd3, hd3m⟩ := own_form ho3 (by decide)
    have HO3 := Lib.hid ho3
    have HG3 := Lib.hid hg3
    have HN3 := Lib.hid hn3
    have HB3 := Lib.hid hb3
    have HP3 := Lib.hid hp3
    have HP1 := Lib.hid hp1
    have HS1 := Lib.hid hsum
    clear ho3 hg3 hn3 hb3 hp3 hp1 o1 hW1 hsum
    go_region_law ((refine step_run_append (by rfl) _ _ 22 (by rfl) _ _ (by rfl) (by rfl) 22 (by rfl) hrun ?_))
    clear hrun
    go_wp2_with fail
    have hgp : g3 ≠ p := by
      rintro rfl
      rcases HB3.out with hb | hb
      · exact HD.out.apart (by rw [← hb]; rfl)
      · simp [Value.ownBlock] at hb; omega
    have hp4 : (W3.setCell ⟨p, 8, none⟩ (.slice (some ⟨g3, 0, none⟩) 64 d3)).heap[p]? = some (.cells (stcells (stN l (l.length/64)) ++ #[.slice (some ⟨g3, 0, none⟩) 64 d3, .int .i64 (↑l.length + ↑xs.length)]) 86 (0, 0)) := by
      rw [heap_setCell_same _ _ _ _ _ _ HP3.out]; rfl
    have k13 : Chg (fun k => k = p ∨ (Value.slice R (l.length % 64) rc).ownBlock = some k) w W3 := (k1.drew.mono (fun i _ hi => .inl hi)).then (Chg.of_grownBy HG3.out) (fun i hi => .inl (.inr hi.symm))
    have k14 : Chg (fun k => k = p ∨ (Value.slice R (l.length % 64) rc).ownBlock = some k) w (W3.setCell ⟨p, 8, none⟩ (.slice (some ⟨g3, 0, none⟩) 64 d3)) := k13.setCell ⟨p, 8, none⟩ (.inl (.inl rfl)) _
    have hS : ∀ i, i < 2 → ¬ (i = p ∨ (Value.slice R (l.length % 64) rc).ownBlock = some i) := by
      rintro i hi (h | h)
      · have := HD.out.pb; omega
      · have := (HD.out.row.lt i h).1; omega
    have hla := HLa.out.chg k14 (hS 0 (by omega)) (hS 1 (by omega))
    have hjoin := blockAt_join l xs kk HS1.out
    have hlen64 : (blockAt (l ++ xs) (l.length / 64)).length = 64 := by
      rw [hjoin, List.length_append, restOf_len, List.length_take, Nat.min_eq_left hkx]; exact HS1.out
    have hBC : ∀ j, j < 64 → (W3.setCell ⟨p, 8, none⟩ (.slice (some ⟨g3, 0, none⟩) 64 d3)).cell? ⟨g3, 0 + j, none⟩ = some (.int .u8 ((blockAt (l ++ xs) (l.length / 64)).getD j 0)) := fun j hj => by
      have h1 := HO3.out.cells (g := g3) rfl j (.int .u8 ((blockAt (l ++ xs) (l.length / 64)).getD j 0)) (by
        rw [hjoin, ← u8s_at (by rw [← hjoin, hlen64]; exact hj)]
        simp [u8s])
      rw [addr_add] at h1
      exact ((Chg.refl (· = p) W3).setCell ⟨p, 8, none⟩ (.inl rfl) _).cell h1 hgp
    have hBy : Bytes (blockAt (l ++ xs) (l.length / 64)) := ((HL.out.append HX.out).drop _).take _
    refine (block_any p g3 0 64 d3 (stN l (l.length / 64)) (↑l.length + ↑xs.length) _ (blockAt (l ++ xs) (l.length / 64)) _ (by omega) (by omega) (by omega) hlen64 hBC hBy hla.tab hla.lt (stN_ok _ _) hp4).mono ?_
    rintro e W5 ⟨rfl, hp5, hc5⟩
    have c85 : W5.cell? ⟨p, 8, none⟩ = some (.slice (some ⟨g3, 0, none⟩) 64 d3) := cell_of_row W5 p 8 _ _ _ hp5
    have f85 : W5.frozen? ⟨p, 8, none⟩ = false := frozen_of_row W5 p 8 _ _ hp5
    have HP5 := Lib.hid hp5
    have HC5 := Lib.hid hc5
    have K14 := Lib.hid k14
    have HJ := Lib.hid hjoin
    clear hp5 hc5 hp4 k13 k14 hS hla hjoin hlen64 hBC hBy
    go_wp2_with fail
    obtain ⟨W0, hW0⟩ : ∃ W0, W0 = W5.setCell ⟨p, 8, none⟩ (.slice (some ⟨g3, 0, none⟩) 0 d3) := ⟨_, rfl⟩
    rw [← hW0]
    obtain ⟨c0, hc0⟩ : ∃ c0, c0 = l.length / 64 + 1 := ⟨_, rfl⟩
    have hcl : 64 * c0 ≤ (l ++ xs).length := by rw [hc0, List.length_append]; omega
    have hdrop : (l ++ xs).drop (64 * c0) = xs.drop kk := by
      have e : 64 * c0 = l.length + kk := by have := HKK.out; omega
      rw [e, List.drop_append]
      simp
    have HC0 : Hid (Chg (fun k => k = p ∨ (Value.slice R (l.length % 64) rc).ownBlock = some k) w W0) := Lib.hid (by
      rw [hW0]; exact (K14.out.then HC5.out (fun i hi => .inl (.inl hi))).setCell ⟨p, 8, none⟩ (.inl (.inl rfl)) _)
    obtain ⟨R1, rc1, HP0, HO0, HR⟩ : ∃ R1 rc1, Hid (W0.heap[p]? = some (.cells (stcells (stN (l ++ xs) c0) ++ #[.slice R1 0 rc1, .int .i64 (↑l.length + ↑xs.length)]) 86 (0, 0))) ∧
        Hid (W0.ownsRow base 5 1 (.slice R1 0 rc1) 0 []) ∧ Hid ((Value.slice R1 0 rc1).ownBlock = (Value.slice R (l.length % 64) rc).ownBlock ∨ ∃ g, (Value.slice R1 0 rc1).ownBlock = some g ∧ w.heap.size ≤ g) := by
      refine ⟨some ⟨g3, 0, none⟩, d3, ?_, ?_, ?_⟩
      · show W0.heap[p]? = _
        rw [hW0, heap_setCell_same _ _ _ _ _ _ HP5.out, hc0, stN_succ, stN_append l xs _ (by omega)]; rfl
      · have h1 := own_chg HO3.out ((Chg.refl (· = p) W3).setCell ⟨p, 8, none⟩ (.inl rfl) (.slice (some ⟨g3, 0, none⟩) 64 d3)) (fun k hk he => by injection hk with hk; exact hgp (hk.trans he))
        have h2 := own_chg h1 HC5.out (fun k hk he => by injection hk with hk; exact hgp (hk.trans he))
        have h3 := own_chg h2 ((Chg.refl (· = p) W5).setCell ⟨p, 8, none⟩ (.inl rfl) (.slice (some ⟨g3, 0, none⟩) 0 d3)) (fun k hk he => by injection hk with hk; exact hgp (hk.trans he))
        rw [← hW0] at h3
        rcases h3.2 with ⟨h, _⟩ | ⟨g, cap, cur, he, hb, hg, _, h2, h3, _⟩
        · cases h
        · injection he with e1 e2 e3
          injection e1 with e1
          injection e1 with e1
          subst e1 e3
          exact ⟨by simp, .inr ⟨g3, d3, cur, rfl, hb, hg, Nat.zero_le _, h2, h3, by simp⟩⟩
      · show (some g3 = _ ∨ ∃ g, some g3 = some g ∧ w.heap.size ≤ g)
        rcases HB3.out with hb | hb
        · exact .inl hb
        · refine .inr ⟨g3, rfl, ?_⟩
          have hb' : g3 = W1.drew.heap.size := by injection hb
          rw [hb']; exact k1.drew.size
    have HB0 : Hid (n0 ≤ xs.length ∧ n0 = ((l ++ xs).drop (64 * c0)).length ∧ SlB w (.slice B0 n0 b0) ((l ++ xs).drop (64 * c0))) := by
      refine ⟨by rw [← HN5.out]; simp, by rw [hdrop, HN5.out], ?_⟩
      rw [hdrop]; exact H51.out
    have HN0 : Hid (0 < ((l ++ xs).drop (64 * c0)).length → Value.blk (.slice B0 n0 b0) = Value.blk (.slice A xs.length c)) := by
      show 0 < ((l ++ xs).drop (64 * c0)).length → _
      rw [hdrop]; exact H52.out
    clear hW0 hc0 hdrop hgp c85 f85 c83 f83 c8'
  case' pos =>
    obtain ⟨W0, hW0⟩ : ∃ W1, W1 = w.setCell ⟨p, 9, none⟩ (.int .i64 (↑l.length + ↑xs.length)) := ⟨_, rfl⟩
    have e0 : l.length % 64 = 0 := by omega
    have HS0 : Hid (SlB w (.slice A xs.length c) ((l ++ xs).drop (64 * (l.length / 64)))) := by
      have : (l ++ xs).drop (64 * (l.length / 64)) = xs := by
        rw [show 64 * (l.length / 64) = l.length from by omega, List.drop_left]
      rw [this]; exact HV
    obtain ⟨c0, hc0⟩ : ∃ c0, c0 = l.length / 64 := ⟨_, rfl⟩
    have HC0 : Hid (Chg (fun k => k = p ∨ (Value.slice R (l.length % 64) rc).ownBlock = some k) w W0) := Lib.hid (by
      rw [hW0]; exact (Chg.refl _ w).setCell ⟨p, 9, none⟩ (.inl (.inl rfl)) _)
    obtain ⟨R1, rc1, HP0, HO0, HR⟩ : ∃ R1 rc1, Hid (W0.heap[p]? = some (.cells (stcells (stN (l ++ xs) c0) ++ #[.slice R1 0 rc1, .int .i64 (↑l.length + ↑xs.length)]) 86 (0, 0))) ∧
        Hid (W0.ownsRow base 5 1 (.slice R1 0 rc1) 0 []) ∧ Hid ((Value.slice R1 0 rc1).ownBlock = (Value.slice R (l.length % 64) rc).ownBlock ∨ ∃ g, (Value.slice R1 0 rc1).ownBlock = some g ∧ w.heap.size ≤ g) := by
      refine ⟨R, rc, ?_, ?_, Or.inl (by cases R <;> rfl)⟩
      · show W0.heap[p]? = _
        rw [hW0, heap_setCell_same _ _ _ _ _ _ HD.out.cells, hc0, stN_append _ _ _ (by omega), e0]; rfl
      · have := own_chg HD.out.row ((Chg.refl (· = p) w).setCell ⟨p, 9, none⟩ (.inl rfl) (.int .i64 (↑l.length + ↑xs.length))) (fun k hk he => HD.out.apart (by rw [hk, he]))
        have hr : restOf l = [] := List.eq_nil_of_length_eq_zero (by rw [restOf_len]; omega)
        rw [← hW0, e0, hr] at this
        exact this
    have hcl : 64 * c0 ≤ (l ++ xs).length := by rw [hc0, List.length_append]; omega
    rw [← hc0] at HS0
    obtain ⟨B0, n0, b0, hv0, HB0, HN0⟩ : ∃ B0 n0 b0, Value.slice A xs.length c = .slice B0 n0 b0 ∧ Hid (n0 ≤ xs.length ∧ n0 = ((l ++ xs).drop (64 * c0)).length ∧ SlB w (.slice B0 n0 b0) ((l ++ xs).drop (64 * c0))) ∧
        Hid (0 < ((l ++ xs).drop (64 * c0)).length → Value.blk (.slice B0 n0 b0) = Value.blk (.slice A xs.length c)) :=
      ⟨A, xs.length, c, rfl, ⟨Nat.le_refl _, by simp; omega, HS0.out⟩, Lib.hid (fun _ => rfl)⟩
    clear HS0
    have HV0 := Lib.hid hv0
    clear hv0
    go_enter Tryd.func25, Tryd.ntmps25
    go_wp2_with fail
    rw [← hW0]
    clear hW0 hc0 e0
    have hv0 := HV0.out
    rw [hv0]
    clear hv0 HV0
  all_goals
    go_loopw [1] (fun v wr => ∃ (k : Nat) (B : Option Addr) (nb cb : Nat), 64 * k ≤ (l ++ xs).length ∧ v = .slice B nb cb ∧ nb ≤ xs.length ∧ nb = ((l ++ xs).drop (64 * k)).length ∧ SlB w (.slice B nb cb) ((l ++ xs).drop (64 * k)) ∧
      (0 < ((l ++ xs).drop (64 * k)).length → Value.blk (.slice B nb cb) = Value.blk (.slice A xs.length c)) ∧
      wr.heap[p]? = some (.cells (stcells (stN (l ++ xs) k) ++ #[.slice R1 0 rc1, .int .i64 (↑l.length + ↑xs.length)]) 86 (0, 0)) ∧ Chg (fun k => k = p ∨ (Value.slice R (l.length % 64) rc).ownBlock = some k) w wr ∧ wr.ownsRow base 5 1 (.slice R1 0 rc1) 0 []) (fun v _ => slen v)
    case atStart => exact ⟨c0, B0, n0, b0, hcl, rfl, HB0.out.1, HB0.out.2.1, HB0.out.2.2, HN0.out, HP0.out, HC0.out, HO0.out⟩
    case round =>
      obtain ⟨k, B, nb, cb, hk, rfl, hnx, hnb, hsb, hbb, hpp, hcc, hoo⟩ := hrel
      have HNB := Lib.hid hnb
      have HSB := Lib.hid hsb
      have HBB := Lib.hid hbb
      have HPP := Lib.hid hpp
      have HCC := Lib.hid hcc
      have HOO := Lib.hid hoo
      clear hnb hsb hbb hpp hcc hoo HP0 HC0 HO0 HB0 HN0 c8 c9 f9
      by_cases h64 : 64 ≤ nb
      · have hlk : 64 ≤ ((l ++ xs).drop (64 * k)).length := by rw [← HNB.out]; exact h64
        obtain ⟨bb, off, cb', he, hb1, hb2⟩ := HSB.out.form (by omega)
        injection he with he1 he2 he3
        subst he1 he3
        rw [← HNB.out] at hb1
        clear he2
        obtain ⟨v5, h51, h52, h53⟩ := slice_from (P := Tryd.prog) 22 5 Tryd.underlying22 (by kernel_rfl) w _ _ 64 HSB.out hlk
        rw [show ((64 : Nat) : Int) = 64 from rfl] at h53
        obtain ⟨B5, c5, hv5, h54, h55⟩ := h51.shape
        have h64i : (64 : Int) ≤ (nb : Int) := by omega
        have hblk : Value.blk (.slice A xs.length c) = some bb := (HBB.out (by omega)).symm
        have hx0 : 0 < xs.length := by omega
        have hdl : ((l ++ xs).drop (64 * k)).length = (l ++ xs).length - 64 * k := by rw [List.length_drop]
        have hk1 : 64 * (k + 1) ≤ (l ++ xs).length := by omega
        have hnb5 : ((l ++ xs).drop (64 * (k + 1))).length = nb - 64 := by rw [List.length_drop, HNB.out, hdl]; omega
        have hdd : (List.drop 64 (List.drop (64 * k) (l ++ xs))) = (l ++ xs).drop (64 * (k + 1)) := by rw [List.drop_drop]; congr 1
        rw [hdd] at h51 h52 hv5 h54
        obtain ⟨n5, hn5⟩ : ∃ n5, ((l ++ xs).drop (64 * (k + 1))).length = n5 := ⟨_, rfl⟩
        rw [hn5] at hv5 h54
        subst hv5
        have H51 := Lib.hid h51
        have H52 := Lib.hid h52
        have hn64 : n5 = nb - 64 := by rw [← hn5]; exact hnb5
        have HN5 : Hid (((l ++ xs).drop (64 * (k + 1))).length = n5 ∧ n5 = nb - 64) := ⟨hn5, hn64⟩
        clear h51 h52 hdd hnb5 hdl hn5 hn64
        have hS : ∀ i, i < 2 → ¬ (i = p ∨ (Value.slice R (l.length % 64) rc).ownBlock = some i) := by
          rintro i hi (h | h)
          · have := HD.out.pb; omega
          · have := (HD.out.row.lt i h).1; omega
        have hla := HLa.out.chg HCC.out (hS 0 (by omega)) (hS 1 (by omega))
        have hSb : ¬ (bb = p ∨ (Value.slice R (l.length % 64) rc).ownBlock = some bb) := by
          rintro (h | h)
          · exact (HA.out bb hblk hx0).1 h
          · exact (HA.out bb hblk hx0).2 h
        have hblen : (blockAt (l ++ xs) k).length = 64 := by rw [blockAt, List.length_take]; omega
        have hBC : ∀ j, j < 64 → wr.cell? ⟨bb, off + j, none⟩ = some (.int .u8 ((blockAt (l ++ xs) k).getD j 0)) := fun j hj => by
          have := HSB.out.at_ j (by omega)
          rw [blockAt, getD_take _ _ _ hj]
          exact HCC.out.cell this hSb
        have hBy : Bytes (blockAt (l ++ xs) k) := ((HL.out.append HX.out).drop _).take _
        have HLA := Lib.hid hla
        have HBC := Lib.hid hBC
        have HBY := Lib.hid hBy
        have HBL := Lib.hid hblen
        clear hla hBC hBy hblen hblk hS hSb
        go_wp2_with fail
        refine (block_any p bb off 64 cb (stN (l ++ xs) k) (↑l.length + ↑xs.length) (.slice R1 0 rc1) (blockAt (l ++ xs) k) wr (by omega) (by omega) (by omega) HBL.out HBC.out HBY.out HLA.out.tab HLA.out.lt (stN_ok _ _) HPP.out).mono ?_
        rintro e w' ⟨rfl, hp2, hc2'⟩
        have HP2 := Lib.hid hp2
        have HC2 := Lib.hid hc2'
        clear hp2 hc2'
        go_wp2
        go_roundw
        case rel =>
          refine ⟨k + 1, B5, n5, c5, hk1, rfl, by have := HN5.out.2; omega, HN5.out.1.symm, H51.out, ?_, ?_, ?_, ?_⟩
          · intro hpos
            rw [H52.out hpos]; exact HBB.out (by rw [← HNB.out]; omega)
          · rw [stN_succ]; exact HP2.out
          · exact HCC.out.then HC2.out (fun i hi => .inl (.inl hi))
          · exact own_chg HOO.out HC2.out (fun i hi he => by
              rcases HR.out with h | ⟨g, h, hg⟩
              · exact HD.out.apart (by rw [← h, hi, he])
              · have := (HOO.out.lt i hi).2
                subst he
                rw [hi] at h; injection h with h
                have := (Array.getElem?_eq_some_iff.1 HD.out.cells).1
                omega)
        case measure => have := HN5.out.2; simp [slen]; omega
      · have hS2 : ¬ ((Value.slice R1 0 rc1).ownBlock = some p) := by
          intro he
          rcases HR.out with h | ⟨g, h, hg⟩
          · exact HD.out.apart (by rw [← h, he])
          · rw [he] at h; injection h with h
            have := (Array.getElem?_eq_some_iff.1 HD.out.cells).1
            omega
        have hpz : p < wr.heap.size := (Array.getElem?_eq_some_iff.1 HPP.out).1
        have s1 : Src wr (.slice B nb cb) 1 nb (u8s ((l ++ xs).drop (64 * k))) := by
          have := HSB.out
          unfold SlB at this
          rw [← HNB.out] at this
          refine this.chg HCC.out (fun b hb hn => ?_) (by decide)
          have hblk := HBB.out (by rw [← HNB.out]; exact hn)
          rw [hb] at hblk
          rintro (h | h)
          · exact (HA.out b hblk.symm (by omega)).1 h
          · exact (HA.out b hblk.symm (by omega)).2 h
        obtain ⟨v3, W3, hrun, ho3, hg3, hn3, hb3⟩ := ap_run (P := Tryd.prog) wr 22 22 base 5 (.int .u8 0) 1 1 Tryd.underlying22 (by kernel_rfl) rfl (by decide) _ _ _ HOO.out _ _ _ s1 (u8s_one _) (by omega) (by omega) (Nat.le_trans HD.out.pb (Nat.le_of_lt hpz))
        have c8' : wr.cell? ⟨p, 8, none⟩ = some (.slice R1 0 rc1) := cell_of_row wr p 8 _ _ _ HPP.out
        have hp3 := (Chg.of_grownBy hg3).heap HPP.out (fun he => hS2 he.symm)
        have c83 : W3.cell? ⟨p, 8, none⟩ = some (.slice R1 0 rc1) := cell_of_row W3 p 8 _ _ _ hp3
        have f83 : W3.frozen? ⟨p, 8, none⟩ = false := frozen_of_row W3 p 8 _ _ hp3
        obtain ⟨A3, d3, rfl⟩ := own_shape ho3
        rw [Nat.zero_add] at ho3 hrun hn3 hb3
        have HO3 := Lib.hid ho3
        have HG3 := Lib.hid hg3
        have HN3 := Lib.hid hn3
        have HB3 := Lib.hid hb3
        have HP3 := Lib.hid hp3
        have HR1 := Lib.hid hrun
        have H64 := Lib.hid h64
        have h64i : ¬ (64 : Int) ≤ (nb : Int) := by omega
        clear ho3 hg3 hn3 hb3 hp3 s1 hS2 hrun
        go_wp2_with (at_builtin; refine wpList_run_append rfl _ _ 22 rfl _ _ rfl rfl 22 rfl HR1.out ?_)
        go_end0
        have hke : k = (l ++ xs).length / 64 := by
          have := HNB.out; rw [List.length_drop] at this; omega
        have hre : (l ++ xs).drop (64 * k) = restOf (l ++ xs) := by unfold restOf; rw [← hke]
        have hnb2 : nb = (l ++ xs).length % 64 := by rw [HNB.out, hre, restOf_len]
        have hne : (Value.slice A3 nb d3).ownBlock ≠ some p := by
          rcases HB3.out with hb | hb
          · rw [hb]; intro he
            rcases HR.out with h | ⟨g, h, hg⟩
            · exact HD.out.apart (by rw [← h, he])
            · rw [he] at h; injection h with h
              have := (Array.getElem?_eq_some_iff.1 HD.out.cells).1
              omega
          · rw [hb]; intro he; injection he with he; omega
        refine ⟨.slice A3 nb d3, rfl, ⟨?_, ?_, HD.out.pb⟩, ?_, ?_⟩
        · rw [heap_setCell_same _ _ _ _ _ _ HP3.out, ← hke]
          simp only [List.length_append, Int.natCast_add]
          rfl
        · rw [← hnb2, ← hre]
          have := own_chg HO3.out ((Chg.refl (· = p) W3).setCell ⟨p, 8, none⟩ (.inl rfl) (Value.slice A3 nb d3)) (fun k hk he => hne (by rw [hk, he]))
          simpa using this
        · have := HCC.out.then (Chg.of_grownBy HG3.out) (fun i hi => by
            rcases HR.out with h | ⟨g, h, hg⟩
            · exact .inl (.inr (by rw [← h]; exact hi.symm))
            · rw [h] at hi; injection hi with hi; exact .inr (by omega))
          exact this.setCell ⟨p, 8, none⟩ (.inl (.inl rfl)) _
        · rcases HB3.out with hb | hb
          · rcases HR.out with h | ⟨g, h, hg⟩
            · exact .inl (hb.trans h)
            · exact .inr ⟨g, hb.trans h, hg⟩
          · exact .inr ⟨_, hb, HCC.out.size⟩
end Go.Proofs.YtaahffminoekfaaDoor
namespace Go.Proofs.YtaahffminoekfaaDoor
open Go.RowKit
set_option maxRecDepth 100000 in
theorem new_any (w : World) (hla : Laid w) :
    Calls Tryd.prog 24 #[] w fun e w' => e = .returned (.pointer (some ⟨w.heap.size, 0, none⟩)) ∧ w' = w.alloc (.cells (stcells beginSt ++ #[.slice none 0 0, .int .i64 0]) 86) := by
  have c0 := hla.beg 0 (by decide)
  have c1 := hla.beg 1 (by decide)
  have c2 := hla.beg 2 (by decide)
  have c3 := hla.beg 3 (by decide)
  have c4 := hla.beg 4 (by decide)
  have c5 := hla.beg 5 (by decide)
  have c6 := hla.beg 6 (by decide)
  have c7 := hla.beg 7 (by decide)
  clear hla
  go_enter Tryd.func24, Tryd.ntmps24
  go_wp2
  go_ret
  exact ⟨rfl, rfl⟩
theorem dig_new (w : World) : Dig (w.alloc (.cells (stcells beginSt ++ #[.slice none 0 0, .int .i64 0]) 86)) w.heap.size w.heap.size [] (.slice none 0 0) :=
  ⟨by rw [heap_alloc_last, show ([] : List Int).length / 64 = 0 from rfl, stN_zero]; rfl, World.ownsRow_nil _ _ _ _, Nat.le_refl _⟩
set_option maxRecDepth 100000 in
theorem len_any (base p : Nat) (l : List Int) (rv : Value) (w : World) (hd : Dig w base p l rv) :
    Calls Tryd.prog 27 #[.pointer (some ⟨p, 0, none⟩)] w fun e w' => e = .returned (.int .i64 (l.length : Int)) ∧ w' = w := by
  have c9 : w.cell? ⟨p, 9, none⟩ = some (.int .i64 (l.length : Int)) := cell_of_row w p 9 _ _ _ hd.cells
  clear hd
  go_enter Tryd.func27, Tryd.ntmps27
  go_wp2
  go_ret
  exact ⟨rfl, rfl⟩
def CopyPost (l : List Int) (w : World) (e : Ending) (w' : World) : Prop :=
  ∃ q rv, e = .returned (.pointer (some ⟨q, 0, none⟩)) ∧ Dig w' w.heap.size q l rv ∧ Below w.heap.size w w'
theorem own_src {w : World} {base n : Nat} {v : Value} {xs : List Int} (h : w.ownsRow base 5 1 v n (u8s xs)) : SlB w v xs := by
  have hl : xs.length = n := by have := h.1; rw [u8s_len] at this; omega
  subst hl
  rcases h.2 with ⟨rfl, h0⟩ | ⟨g, cap, cur, rfl, _, hg, h1, h2, _⟩
  · obtain rfl : xs = [] := List.eq_nil_of_length_eq_zero h0
    exact .inl ⟨rfl, rfl, rfl⟩
  · exact .inr ⟨⟨g, 0, none⟩, cap, rfl, by rw [u8s_len]; omega, h1, by simpa [maxLen] using h2, fun j u hu => h.cells rfl j u hu⟩
set_option maxRecDepth 100000 in
theorem copy_any (base p : Nat) (l : List Int) (rv : Value) (w : World) (hd : Dig w base p l rv) :
    Calls Tryd.prog 28 #[.pointer (some ⟨p, 0, none⟩)] w (CopyPost l w) := by
  have hr : ∀ j, (stcells (stN l (l.length / 64)) ++ #[rv, .int .i64 (l.length : Int)])[j]? = w.cell? ⟨p, j, none⟩ := fun j => (cell_of_row w p j _ _ _ hd.cells).symm
  obtain ⟨s, hs⟩ : ∃ s, stN l (l.length / 64) = s := ⟨_, rfl⟩
  rw [hs] at hr
  have c0 : w.cell? ⟨p, 0, none⟩ = some (.int .u32 s.a) := (hr 0).symm
  have c1 : w.cell? ⟨p, 1, none⟩ = some (.int .u32 s.b) := (hr 1).symm
  have c2 : w.cell? ⟨p, 2, none⟩ = some (.int .u32 s.c) := (hr 2).symm
  have c3 : w.cell? ⟨p, 3, none⟩ = some (.int .u32 s.d) := (hr 3).symm
  have c4 : w.cell? ⟨p, 4, none⟩ = some (.int .u32 s.e) := (hr 4).symm
  have c5 : w.cell? ⟨p, 5, none⟩ = some (.int .u32 s.f) := (hr 5).symm
  have c6 : w.cell? ⟨p, 6, none⟩ = some (.int .u32 s.g) := (hr 6).symm
  have c7 : w.cell? ⟨p, 7, none⟩ = some (.int .u32 s.h) := (hr 7).symm
  have c8 : w.cell? ⟨p, 8, none⟩ = some rv := (hr 8).symm
  have c9 : w.cell? ⟨p, 9, none⟩ = some (.int .i64 (l.length : Int)) := (hr 9).symm
  obtain ⟨R, rc, rfl⟩ := own_shape hd.row
  have hps : p < w.heap.size := (Array.getElem?_eq_some_iff.1 hd.cells).1
  have HS := Lib.hid hs
  have HD := Lib.hid hd
  clear hs hd hr
  go_enter Tryd.func28, Tryd.ntmps28
  go_wp2_with fail
  obtain ⟨W1, hW1⟩ : ∃ W1, W1 = w.alloc (.cells (stcells s ++ #[.slice R (l.length % 64) rc, .int .i64 (l.length : Int)]) 86) := ⟨_, rfl⟩
  have hsrc : SlB W1 (.slice R (l.length % 64) rc) (restOf l) := by
    rw [hW1]; exact (own_src HD.out.row).chg ((Chg.refl (fun _ => False) w).alloc _) (fun _ _ _ h => h) (by decide)
  have hgoal := clone_any (.slice R (l.length % 64) rc) (restOf l) W1 hsrc (by unfold Room; rw [restOf_len]; omega)
  rw [hW1] at hgoal
  clear hsrc hW1
  refine hgoal.mono ?_
  clear hgoal
  rintro e w' ⟨v', rfl, ho, hb, hn⟩
  have hp1 : w'.heap[w.heap.size]? = some (.cells (stcells s ++ #[.slice R (l.length % 64) rc, .int .i64 (l.length : Int)]) 86 (0, 0)) := by
    rw [hb.block _ (by simp), heap_alloc_last]
  have d8 : w'.cell? ⟨w.heap.size, 8, none⟩ = some (.slice R (l.length % 64) rc) := cell_of_row w' _ 8 _ _ _ hp1
  have f8 : w'.frozen? ⟨w.heap.size, 8, none⟩ = false := frozen_of_row w' _ 8 _ _ hp1
  obtain ⟨A, c, rfl⟩ := own_shape ho
  have HO := Lib.hid ho
  have HB := Lib.hid hb
  have HP := Lib.hid hp1
  clear ho hb hn hp1
  go_wp2
  go_ret
  rw [restOf_len] at HO
  have hz : w.heap.size < (w.alloc (.cells (stcells s ++ #[.slice R (l.length % 64) rc, .int .i64 (l.length : Int)]) 86)).heap.size := by simp
  refine ⟨w.heap.size, .slice A (l.length % 64) c, by rw [restOf_len]; rfl, ⟨?_, ?_, Nat.le_refl _⟩, ?_⟩
  · rw [restOf_len, heap_setCell_same _ _ _ _ _ _ HP.out, HS.out]; rfl
  · have h1 := own_chg HO.out ((Chg.refl (· = w.heap.size) w').setCell ⟨w.heap.size, 8, none⟩ (.inl rfl) (.slice A (restOf l).length c)) (fun k hk he => by have := (HO.out.lt k hk).1; omega)
    refine ⟨h1.1, ?_⟩
    rcases h1.2 with h | ⟨g, cap, cur, he, hb, hr⟩
    · exact .inl h
    · exact .inr ⟨g, cap, cur, he, by omega, hr⟩
  · exact ((((Chg.refl (fun k => w.heap.size ≤ k) w).alloc _).then (Chg.of_below HB.out (fun _ => False)) (fun _ h => h.elim)).setCell ⟨w.heap.size, 8, none⟩ (.inl (Nat.le_refl _)) _).below (Nat.le_refl _) (fun _ h => h)
end Go.Proofs.YtaahffminoekfaaDoor
namespace Go.Proofs.YtaahffminoekfaaDoor
open Go.RowKit
def be8 (n : Int) (k : Nat) : List Int := (List.range k).map fun j => n / 2 ^ (8 * (7 - j)) % 256
theorem be8_succ (n : Int) (k : Nat) : be8 n (k + 1) = be8 n k ++ [n / 2 ^ (8 * (7 - k)) % 256] := by simp [be8, List.range_succ]
theorem be8_len (n : Int) (k : Nat) : (be8 n k).length = k := by simp [be8]
def zerosOf (n : Nat) : Nat := (119 - n % 64) % 64
def padOf (n : Nat) : List Int := (128 :: List.replicate (zerosOf n) 0) ++ be8 (n * 8) 8
theorem padOf_len (n : Nat) : (padOf n).length = 9 + zerosOf n := by simp [padOf, be8]; omega
theorem padOf_bytes (n : Nat) : Bytes (padOf n) := by
  unfold padOf
  refine Bytes.append ?_ ?_
  · intro j
    rw [List.getD_eq_getElem?_getD]
    cases j with
    | zero => simp
    | succ j => simp only [List.getElem?_cons_succ, List.getElem?_replicate]; split <;> simp
  · intro j
    rw [List.getD_eq_getElem?_getD, be8, List.getElem?_map]
    cases h : (List.range 8)[j]? with
    | none => simp
    | some i => simp; omega
def byteOf (x : Int) : Nat → Int
  | 0 => x / 16777216 % 256
  | 1 => x / 65536 % 256
  | 2 => x / 256 % 256
  | _ => x % 256
def hashL (s : St) : List Int := (List.range 32).map fun j => byteOf (stget s (j / 4)) (j % 4)
def hashCells (s : St) (m : Nat) : Array Value := ((List.range 32).map fun j => Value.int .u8 (if j < 4 * m then byteOf (stget s (j / 4)) (j % 4) else 0)).toArray
theorem setRow_same (w : World) (g : Nat) (c old : Array Value) (t : TypeId) (fr : Nat × Nat) (hg : w.heap[g]? = some (.cells old t fr)) : (w.setRow g c).heap[g]? = some (.cells c t fr) := by
  simp [World.setRow, Array.getElem?_modify, hg]
theorem Chg.setRow {S : Nat → Prop} {a w : World} (h : Chg S a w) (g : Nat) (hg : S g ∨ a.heap.size ≤ g) (c : Array Value) : Chg S a (w.setRow g c) :=
  ⟨h.os, h.tape, h.output, by simpa [World.setRow] using h.size, fun i hi hn => (setRow_other w g i c (by
    rintro rfl
    rcases hg with hg | hg
    · exact hn hg
    · omega)).trans (h.block i hi hn)⟩
theorem all_one {cs : List Value} (h : ∀ v ∈ cs, v.oneCell' = true) : cs.toArray.all (·.oneCell') = true :=
  Array.all_eq_true_iff_forall_mem.2 (fun v hv => h v (by simpa using hv))
theorem hashCells_zero (s : St) (m i : Nat) (h : m < 8) (hi : i < 4) : (hashCells s m)[4 * m + i]? = some (.int .u8 0) := by
  match m, h, i, hi with
  | 0, _, 0, _ | 0, _, 1, _ | 0, _, 2, _ | 0, _, 3, _ | 1, _, 0, _ | 1, _, 1, _ | 1, _, 2, _ | 1, _, 3, _ | 2, _, 0, _ | 2, _, 1, _ | 2, _, 2, _ | 2, _, 3, _ | 3, _, 0, _ | 3, _, 1, _ | 3, _, 2, _ | 3, _, 3, _
  | 4, _, 0, _ | 4, _, 1, _ | 4, _, 2, _ | 4, _, 3, _ | 5, _, 0, _ | 5, _, 1, _ | 5, _, 2, _ | 5, _, 3, _ | 6, _, 0, _ | 6, _, 1, _ | 6, _, 2, _ | 6, _, 3, _ | 7, _, 0, _ | 7, _, 1, _ | 7, _, 2, _ | 7, _, 3, _ => rfl
theorem hashCells_set (s : St) (m : Nat) (h : m < 8) :
    ((((hashCells s m).setIfInBounds (4 * m) (.int .u8 (stget s m / 16777216 % 256))).setIfInBounds (4 * m + 1) (.int .u8 (stget s m / 65536 % 256))).setIfInBounds (4 * m + 2) (.int .u8 (stget s m / 256 % 256))).setIfInBounds (4 * m + 3) (.int .u8 (stget s m % 256)) = hashCells s (m + 1) := by
  match m, h with
  | 0, _ | 1, _ | 2, _ | 3, _ | 4, _ | 5, _ | 6, _ | 7, _ => rfl
theorem hashCells_all (s : St) : hashCells s 8 = (u8s (hashL s)).toArray := rfl
/-- The sum of bytes. -/
def shaI (l : List Int) : List Int := hashL (stN (l ++ padOf l.length) ((l ++ padOf l.length).length / 64))
def hashV (l : List Int) : Value := .agg (u8s l).toArray
def SumPost (l : List Int) (w : World) (e : Ending) (w' : World) : Prop := e = .returned (hashV (shaI l)) ∧ Below w.heap.size w w'
set_option maxRecDepth 100000 in
set_option maxHeartbeats 1000000 in
theorem sum_any (base p : Nat) (l : List Int) (rv : Value) (w : World) (hd : Dig w base p l rv) (hl : Bytes l) (hlen : l.length ≤ 100000000) (hla : Laid w) (h2 : 2 ≤ w.heap.size) :
    Calls Tryd.prog 26 #[.pointer (some ⟨p, 0, none⟩)] w (SumPost l w) := by
  have HD := Lib.hid hd
  have HL := Lib.hid hl
  have HLA := Lib.hid hla
  clear hd hl hla
  go_enter Tryd.func26, Tryd.ntmps26
  go_wp2_with fail
  have hd0 : Dig (w.alloc (.cells ((List.replicate 32 (Value.int .u8 0)).toArray) 25)) base p l rv := by
    have hc := (Chg.refl (fun _ => False) w).alloc (.cells ((List.replicate 32 (Value.int .u8 0)).toArray) 25)
    exact ⟨hc.heap HD.out.cells (fun h => h), own_chg HD.out.row hc (fun _ _ h => h), HD.out.pb⟩
  refine (copy_any base p l rv _ hd0).mono ?_
  rintro e W1 ⟨q, rv1, rfl, hd1, hb1⟩
  have hb1' : Below (w.heap.size + 1) (w.alloc (.cells ((List.replicate 32 (Value.int .u8 0)).toArray) 25)) W1 := by
    rw [World.size_alloc] at hb1; exact hb1
  have hd1' : Dig W1 (w.heap.size + 1) q l rv1 := by rw [World.size_alloc] at hd1; exact hd1
  have hr1 : W1.heap[w.heap.size]? = some (.cells ((List.replicate 32 (Value.int .u8 0)).toArray) 25 (0, 0)) := by
    rw [hb1'.block _ (by omega), heap_alloc_last]
  have hdp : W1.cell? ⟨p, 9, none⟩ = some (.int .i64 (l.length : Int)) := by
    have hps : p < w.heap.size := (Array.getElem?_eq_some_iff.1 HD.out.cells).1
    have := cell_of_row w p 9 _ _ _ HD.out.cells
    rw [hb1'.cell (p := ⟨p, 9, none⟩) (by show p < w.heap.size + 1; omega), World.cell?_alloc_past _ _ _ (by exact hps), this]; rfl
  have HD1 := Lib.hid hd1'
  have HB1 := Lib.hid hb1'
  have HR1 := Lib.hid hr1
  clear hd0 hd1 hb1 hd1' hb1' hr1
  have hsz1 : w.heap.size + 1 ≤ W1.heap.size := by have := HB1.out.size; simp at this; exact this
  go_wp2_with fail
  obtain ⟨W2, hW2⟩ : ∃ W2, W2 = W1.alloc (.cells #[.int .u8 128] 5) := ⟨_, rfl⟩
  rw [← hW2]
  obtain ⟨z, hz⟩ : ∃ z, zerosOf l.length = z := ⟨_, rfl⟩
  have hz63 : z ≤ 63 := by unfold zerosOf at hz; omega
  have HZ := Lib.hid hz
  have hsome : Hid (W2.ownsRow W1.heap.size 5 1 (.slice (some ⟨W1.heap.size, 0, none⟩) 1 1) 1 (u8s [128]) ∧ Below W1.heap.size W1 W2) := by
    refine ⟨?_, ?_⟩
    · refine ⟨rfl, .inr ⟨W1.heap.size, 1, #[.int .u8 128], rfl, Nat.le_refl _, ?_, Nat.le_refl _, by simp [maxLen], rfl, rfl⟩⟩
      rw [hW2, heap_alloc_last]
    · rw [hW2]; exact (Below.refl _ _).alloc (Nat.le_refl _) _
  clear hz hW2
  go_loopw [5] (fun v wr => ∃ (k c : Nat) (A : Option Addr), k ≤ z ∧ v = .slice A (k + 1) c ∧ wr.ownsRow W1.heap.size 5 1 (.slice A (k + 1) c) (k + 1) (u8s (128 :: List.replicate k 0)) ∧ Below W1.heap.size W1 wr) (fun v _ => z + 1 - slen v)
  case atStart => exact ⟨0, 1, _, Nat.zero_le _, rfl, hsome.out.1, hsome.out.2⟩
  case round =>
    obtain ⟨k, c, A, hk, rfl, ho, hb⟩ := hrel
    have hcp := hb.cell (p := ⟨p, 9, none⟩) (World.block_lt_of_cell? W1 ⟨p, 9, none⟩ hdp)
    rw [hdp] at hcp
    have HO := Lib.hid ho
    have HB := Lib.hid hb
    clear ho hb hsome
    by_cases hkz : k < z
    · have ht : (((l.length : Int) + (↑k + 1) + 8) % 64 != 0) = true := by have := HZ.out; unfold zerosOf at this; rw [bne_iff_ne]; omega
      obtain ⟨A2, c2, w2, hrun, ho2, hc2, hb2⟩ := push_run (P := Tryd.prog) wr 22 22 W1.heap.size 5 (.int .u8 0) 1 Tryd.underlying22 (by kernel_rfl) rfl _ _ _ HO.out [.int .u8 0] 1 rfl (by simp [Value.oneCell']) (by omega) (by omega) HB.out.size
      have HO2 := Lib.hid ho2
      have HC2 := Lib.hid hc2
      have HR2 := Lib.hid hrun
      clear ho2 hc2 hb2 hrun
      go_wp2_with (at_builtin; refine wpList_run_append rfl _ _ 22 rfl _ _ rfl rfl 22 rfl HR2.out ?_)
      go_roundw
      case rel =>
        refine ⟨k + 1, c2, A2, hkz, rfl, ?_, ?_⟩
        · have := HO2.out
          rw [List.replicate_succ', ← List.cons_append]
          simpa [u8s] using this
        · have h3 := (Chg.of_below (S := fun _ => False) (w := W1) ⟨HB.out.os, HB.out.tape, HB.out.output, HB.out.size, fun i hi => HB.out.block i hi⟩).then HC2.out (fun i hi => .inr (HO.out.lt i hi).1)
          exact h3.below_none (fun _ _ h => h)
      case measure => simp [slen]; omega
    · obtain rfl : k = z := by omega
      have ht : (((l.length : Int) + (↑k + 1) + 8) % 64 != 0) = false := by have := HZ.out; unfold zerosOf at this; rw [bne_eq_false_iff_eq]; omega
      go_wp2_with fail
      clear ht hcp hkz hk
      have HO0 := HO
      have HB0 := HB
      clear HO HB
      go_loopw [5, 6] (fun v i wr => ∃ (m c : Nat) (A : Option Addr), m ≤ 8 ∧ v = .slice A (k + 1 + m) c ∧ i = .int .i64 (7 - (m : Int)) ∧ wr.ownsRow W1.heap.size 5 1 (.slice A (k + 1 + m) c) (k + 1 + m) (u8s ((128 :: List.replicate k 0) ++ be8 (l.length * 8) m)) ∧ Below W1.heap.size W1 wr) (fun _ i _ => (intOf i + 1).toNat)
      case atStart => exact ⟨0, c, A, by omega, rfl, rfl, by simpa [be8] using HO0.out, HB0.out⟩
      case round =>
        clear HO0 HB0
        obtain ⟨m, c, A, hm, rfl, rfl, ho, hb⟩ := hrel
        have HO := Lib.hid ho
        have HB := Lib.hid hb
        clear ho hb
        by_cases hm8 : m < 8
        · obtain ⟨A2, c2, w2, hrun, ho2, hc2, hb2⟩ := push_run (P := Tryd.prog) wr 22 22 W1.heap.size 5 (.int .u8 0) 1 Tryd.underlying22 (by kernel_rfl) rfl _ _ _ HO.out [.int .u8 (↑l.length * 8 / 2 ^ (8 * (7 - m)) % 256)] 1 rfl (by simp [Value.oneCell']) (by omega) (by omega) HB.out.size
          have HO2 := Lib.hid ho2
          have HC2 := Lib.hid hc2
          have HR2 := Lib.hid hrun
          clear ho2 hc2 hb2 hrun
          go_wp2_with (at_builtin; refine wpList_run_append rfl _ _ 22 rfl _ _ rfl rfl 22 rfl HR2.out ?_)
          go_roundw
          case rel =>
            refine ⟨m + 1, c2, A2, hm8, rfl, by go_num, ?_, ?_⟩
            · have := HO2.out
              rw [be8_succ, ← List.append_assoc]
              simpa [u8s, Nat.add_assoc] using this
            · have h3 := (Chg.of_below (S := fun _ => False) (w := W1) ⟨HB.out.os, HB.out.tape, HB.out.output, HB.out.size, fun i hi => HB.out.block i hi⟩).then HC2.out (fun i hi => .inr (HO.out.lt i hi).1)
              exact h3.below_none (fun _ _ h => h)
          case measure => simp [intOf]; omega
        · obtain rfl : m = 8 := by omega
          have hq : q < W1.heap.size := (Array.getElem?_eq_some_iff.1 HD1.out.cells).1
          have hcb := Chg.of_below (S := fun _ => False) (w := W1) ⟨HB.out.os, HB.out.tape, HB.out.output, HB.out.size, fun i hi => HB.out.block i hi⟩
          have hdq : Dig wr (w.heap.size + 1) q l rv1 := ⟨hcb.heap HD1.out.cells (fun h => h), own_chg HD1.out.row hcb (fun _ _ h => h), HD1.out.pb⟩
          have hpad : (128 :: List.replicate k 0) ++ be8 (l.length * 8) 8 = padOf l.length := by rw [padOf, HZ.out]
          have hsl : SlB wr (.slice A (k + 1 + 8) c) (padOf l.length) := by rw [← hpad]; exact own_src HO.out
          have hla2 : Laid wr := by
            have h1 := HLA.out.chg ((Chg.refl (fun _ => False) w).alloc (.cells ((List.replicate 32 (Value.int .u8 0)).toArray) 25)) (fun h => h) (fun h => h)
            have h2 := h1.chg (S := fun i => w.heap.size + 1 ≤ i) ⟨HB1.out.os, HB1.out.tape, HB1.out.output, HB1.out.size, fun i hi hn => HB1.out.block i (by omega)⟩ (by omega) (by omega)
            exact h2.chg hcb (fun h => h) (fun h => h)
          have hwr := write_any (w.heap.size + 1) q l (padOf l.length) rv1 (.slice A (k + 1 + 8) c) wr hdq hsl (fun b hb hn => by
            have hob : (Value.slice A (k + 1 + 8) c).ownBlock = some b := by
              obtain ⟨g, cap, he, _⟩ := own_form HO.out (by omega)
              rw [he] at hb ⊢; exact hb
            have hb1 := (HO.out.lt b hob).1
            refine ⟨by omega, fun he => ?_⟩
            have := (HD1.out.row.lt b he).2
            omega) (padOf_bytes _) HL.out (by rw [padOf_len, HZ.out]; omega) hla2 (by omega)
          have HWR := Lib.hid hwr
          have HCB := Lib.hid hcb
          clear hdq hsl hla2 hwr hcb hpad
          go_wp2_with fail
          refine HWR.out.mono ?_
          rintro e W4 ⟨rv2, rfl, hd4, hc4, hb4⟩
          have hr : ∀ j, (stcells (stN (l ++ padOf l.length) ((l ++ padOf l.length).length / 64)) ++ #[rv2, .int .i64 ((l ++ padOf l.length).length : Int)])[j]? = W4.cell? ⟨q, j, none⟩ := fun j => (cell_of_row W4 q j _ _ _ hd4.cells).symm
          obtain ⟨s, hs⟩ : ∃ s, stN (l ++ padOf l.length) ((l ++ padOf l.length).length / 64) = s := ⟨_, rfl⟩
          rw [hs] at hr
          have c0 : W4.cell? ⟨q, 0, none⟩ = some (.int .u32 s.a) := (hr 0).symm
          have c1 : W4.cell? ⟨q, 1, none⟩ = some (.int .u32 s.b) := (hr 1).symm
          have c2 : W4.cell? ⟨q, 2, none⟩ = some (.int .u32 s.c) := (hr 2).symm
          have c3 : W4.cell? ⟨q, 3, none⟩ = some (.int .u32 s.d) := (hr 3).symm
          have c4 : W4.cell? ⟨q, 4, none⟩ = some (.int .u32 s.e) := (hr 4).symm
          have c5 : W4.cell? ⟨q, 5, none⟩ = some (.int .u32 s.f) := (hr 5).symm
          have c6 : W4.cell? ⟨q, 6, none⟩ = some (.int .u32 s.g) := (hr 6).symm
          have c7 : W4.cell? ⟨q, 7, none⟩ = some (.int .u32 s.h) := (hr 7).symm
          have hql : q < W4.heap.size := World.block_lt_of_cell? W4 ⟨q, 0, none⟩ c0
          have HS := Lib.hid hs
          have HD4 := Lib.hid hd4
          have HC4 := Lib.hid hc4
          clear hs hd4 hc4 hb4 hr
          go_wp2_with fail
          clear c0 c1 c2 c3 c4 c5 c6 c7
          go_loopw [51] (fun i wr => ∃ m : Nat, m ≤ 8 ∧ i = .int .i64 m ∧ wr = W4.alloc (.cells (hashCells s m) 25)) (fun i _ => 8 - (intOf i).toNat)
          case atStart => exact ⟨0, by omega, rfl, rfl⟩
          case round =>
            obtain ⟨m, hm, rfl, rfl⟩ := hrel
            by_cases hm8 : m < 8
            · have i0 : ∀ W, (Instr.index 84 (.agg #[.int .u32 s.a, .int .u32 s.b, .int .u32 s.c, .int .u32 s.d, .int .u32 s.e, .int .u32 s.f, .int .u32 s.g, .int .u32 s.h]) (.int .i64 (m : Int))).run Tryd.prog W = .ok (.int .u32 (stget s m)) W := by
                match m, hm8 with | 0, _ | 1, _ | 2, _ | 3, _ | 4, _ | 5, _ | 6, _ | 7, _ => exact fun _ => by kernel_rfl
              have z0 := hashCells_zero s m 0 hm8 (by omega)
              have z1 := hashCells_zero s m 1 hm8 (by omega)
              have z2 := hashCells_zero s m 2 hm8 (by omega)
              have z3 := hashCells_zero s m 3 hm8 (by omega)
              rw [Nat.add_zero] at z0
              go_wp2
              go_roundw
              case rel => exact ⟨m + 1, hm8, by go_num, by rw [hashCells_set s m hm8]⟩
              case measure => simp [intOf]; omega
            · obtain rfl : m = 8 := by omega
              rw [show ((8 : Nat) : Int) = 8 from rfl]
              obtain ⟨hc, hhc⟩ : ∃ hc, hashCells s 8 = hc := ⟨_, rfl⟩
              rw [hhc]
              have hsz : (Tryd.prog.info? 25).map (·.size) = some hc.size := by rw [← hhc]; exact (by kernel_rfl)
              have hone : hc.all (·.oneCell') = true := by rw [← hhc, hashCells_all]; exact all_one (u8s_one _)
              have hgl : (W4.alloc (.cells hc 25)).heap[W4.heap.size]? = some (.cells hc 25 (0, 0)) := heap_alloc_last _ _
              have hgs : (W4.alloc (.cells hc 25)).heap[w.heap.size]? = some (.cells ((List.replicate 32 (Value.int .u8 0)).toArray) 25 (0, 0)) := by
                have h1 : wr.heap[w.heap.size]? = _ := HCB.out.heap HR1.out (fun h => h)
                have h2 := HC4.out.heap h1 (by
                  rintro (h | h)
                  · have := HD1.out.pb; omega
                  · have := (HD1.out.row.lt _ h).1; omega)
                exact (Below.heap_alloc _ _ _ (Array.getElem?_eq_some_iff.1 h2).1).trans h2
              have hold : ((List.replicate 32 (Value.int .u8 0)).toArray).size = hc.size := by rw [← hhc]; rfl
              have HGL := Lib.hid hgl
              have HGS := Lib.hid hgs
              have HSZ := Lib.hid hsz
              have HON := Lib.hid hone
              have HOL := Lib.hid hold
              have HHC := Lib.hid hhc
              clear hsz hone hgl hgs hold hhc
              go_wp2_with (first
                | (refine wpList_load_row rfl 25 (.tmp 7) rfl W4.heap.size (by rfl) 25 hc (0, 0) _ HGL.out Tryd.underlying25 rfl HSZ.out ?_)
                | (refine wpList_store_row rfl 25 (.tmp 2) (.tmp 82) rfl w.heap.size hc (by rfl) (by rfl) 25 _ HGS.out HSZ.out HOL.out HON.out ?_))
              have hset := setRow_same (W4.alloc (.cells hc 25)) w.heap.size hc _ 25 (0, 0) HGS.out
              refine bodyPost_ret (v := .agg hc) (results_cell_row rfl _ _ w.heap.size 25 hc (0, 0) _ (by rfl) hset Tryd.underlying25 rfl HSZ.out) rfl ?_
              refine ⟨?_, ?_⟩
              · rw [← HHC.out, hashCells_all, ← HS.out]; rfl
              · have g1 := (Chg.refl (fun i => w.heap.size ≤ i) w).alloc (.cells ((List.replicate 32 (Value.int .u8 0)).toArray) 25)
                have g2 := g1.then (c := W1) (T := fun i => w.heap.size + 1 ≤ i) ⟨HB1.out.os, HB1.out.tape, HB1.out.output, HB1.out.size, fun i hi hn => HB1.out.block i (by omega)⟩ (fun i hi => .inl (by omega))
                have g3 := g2.then HCB.out (fun i hi => hi.elim)
                have g4 := g3.then HC4.out (fun i hi => .inl (by
                  rcases hi with h | h
                  · have := HD1.out.pb; omega
                  · have := (HD1.out.row.lt _ h).1; omega))
                have g5 := g4.alloc (.cells hc 25)
                have g6 := g5.setRow w.heap.size (.inl (Nat.le_refl _)) hc
                exact g6.below (Nat.le_refl _) (fun _ h => h)
end Go.Proofs.YtaahffminoekfaaDoor
namespace Go.Proofs.YtaahffminoekfaaDoor
open Go.RowKit
theorem hash_size (l : List Int) : (shaI l).length = 32 := by simp [shaI, hashL]
theorem info25 : (Tryd.prog.info? 25).map (·.size) = some 32 := by kernel_rfl
theorem u8s_size {l : List Int} (h : l.length = 32) : (Tryd.prog.info? 25).map (·.size) = some (u8s l).toArray.size := by
  have : (u8s l).toArray.size = 32 := by simp [u8s, h]
  rw [this]
  exact info25
set_option maxRecDepth 100000 in
set_option maxHeartbeats 1000000 in
/-- sha.Sum. -/
theorem shaSum_any (xs : List Int) (v : Value) (w : World) (hv : SlB w v xs) (hx : Bytes xs) (hlen : xs.length ≤ 100000000) (hla : Laid w) :
    Calls Tryd.prog 22 #[v] w (SumPost xs w) := by
  have h2 := hla.lt
  have HV := Lib.hid hv
  have HX := Lib.hid hx
  have HLA := Lib.hid hla
  clear hv hx hla
  go_enter Tryd.func22, Tryd.ntmps22
  go_wp2_with fail
  obtain ⟨W0, hW0⟩ : ∃ W0, W0 = w.alloc (.cells ((List.replicate 32 (Value.int .u8 0)).toArray) 25) := ⟨_, rfl⟩
  have c0 : Chg (fun _ => False) w W0 := by rw [hW0]; exact (Chg.refl _ w).alloc _
  have hz0 : W0.heap.size = w.heap.size + 1 := by rw [hW0]; simp
  have hn := new_any W0 (HLA.out.chg c0 (fun h => h) (fun h => h))
  have hr0 : W0.heap[w.heap.size]? = some (.cells ((List.replicate 32 (Value.int .u8 0)).toArray) 25 (0, 0)) := by rw [hW0, heap_alloc_last]
  have HN := Lib.hid hn
  have HZ := Lib.hid hz0
  have HR0 := Lib.hid hr0
  have HC0 := Lib.hid c0
  rw [show (#[Value.int IntKind.u8 0, Value.int IntKind.u8 0, Value.int IntKind.u8 0, Value.int IntKind.u8 0, Value.int IntKind.u8 0, Value.int IntKind.u8 0, Value.int IntKind.u8 0, Value.int IntKind.u8 0,
    Value.int IntKind.u8 0, Value.int IntKind.u8 0, Value.int IntKind.u8 0, Value.int IntKind.u8 0, Value.int IntKind.u8 0, Value.int IntKind.u8 0, Value.int IntKind.u8 0, Value.int IntKind.u8 0,
    Value.int IntKind.u8 0, Value.int IntKind.u8 0, Value.int IntKind.u8 0, Value.int IntKind.u8 0, Value.int IntKind.u8 0, Value.int IntKind.u8 0, Value.int IntKind.u8 0, Value.int IntKind.u8 0,
    Value.int IntKind.u8 0, Value.int IntKind.u8 0, Value.int IntKind.u8 0, Value.int IntKind.u8 0, Value.int IntKind.u8 0, Value.int IntKind.u8 0, Value.int IntKind.u8 0, Value.int IntKind.u8 0]) = (List.replicate 32 (Value.int .u8 0)).toArray from rfl, ← hW0]
  clear hn hz0 hr0 c0 hW0
  refine HN.out.mono ?_
  rintro e W1 ⟨rfl, hW1⟩
  have d1 : Dig W1 W0.heap.size W0.heap.size [] (.slice none 0 0) := by rw [hW1]; exact dig_new W0
  have c1 : Chg (fun _ => False) w W1 := by rw [hW1]; exact HC0.out.alloc _
  have hw1 := write_any W0.heap.size W0.heap.size [] xs (.slice none 0 0) v W1 d1 (HV.out.chg c1 (fun _ _ _ h => h) (by decide)) (fun b hb hn => by
      refine ⟨?_, by simp [Value.ownBlock]⟩
      obtain ⟨b', off, c, he, _⟩ := HV.out.form hn
      rw [he] at hb
      injection hb with hb
      have hlt := World.block_lt_of_cell? w ⟨b', off + 0, none⟩ ((he ▸ HV.out).at_ 0 hn)
      have : W0.heap.size = w.heap.size + 1 := HZ.out
      have hlt' : b' < w.heap.size := hlt
      have : b' = b := hb
      omega) HX.out (fun j => by simp) (by simp; omega) (HLA.out.chg c1 (fun h => h) (fun h => h)) (by have := HZ.out; omega)
  have HW := Lib.hid hw1
  have HC1 := Lib.hid c1
  have hr1 : W1.heap[w.heap.size]? = some (.cells ((List.replicate 32 (Value.int .u8 0)).toArray) 25 (0, 0)) := by
    rw [hW1]; exact (Below.heap_alloc _ _ _ (by have := HZ.out; omega)).trans HR0.out
  have HR1 := Lib.hid hr1
  clear d1 c1 hw1 hW1 hr1
  go_wp2_with fail
  refine HW.out.mono ?_
  rintro e W2 ⟨rv2, rfl, d2, c2, b2⟩
  rw [List.nil_append] at d2
  have c2' : Chg (fun k => k = W0.heap.size) W1 W2 := c2.mono (fun i _ hi => by
    rcases hi with h | h
    · exact h
    · simp [Value.ownBlock] at h)
  have c02 : Chg (fun _ => False) w W2 := HC1.out.then c2' (fun i hi => .inr (by have := HZ.out; omega))
  have hs2 := sum_any W0.heap.size W0.heap.size xs rv2 W2 d2 HX.out hlen (HLA.out.chg c02 (fun h => h) (fun h => h)) (by have := c02.size; omega)
  have hr2 := c2'.heap HR1.out (by have := HZ.out; omega)
  have HS2 := Lib.hid hs2
  have HR2 := Lib.hid hr2
  have HC2 := Lib.hid c02
  clear d2 c2 b2 c2' c02 hs2 hr2
  go_wp2_with fail
  refine HS2.out.mono ?_
  rintro e W3 ⟨rfl, b3⟩
  have hr3 : W3.heap[w.heap.size]? = _ := (b3.block _ (Array.getElem?_eq_some_iff.1 HR2.out).1).trans HR2.out
  have hsz := u8s_size (hash_size xs)
  obtain ⟨hc, hhc⟩ : ∃ hc, (u8s (shaI xs)).toArray = hc := ⟨_, rfl⟩
  have hone : hc.all (·.oneCell') = true := by rw [← hhc]; exact all_one (u8s_one _)
  have hold : ((List.replicate 32 (Value.int .u8 0)).toArray).size = hc.size := by rw [← hhc]; simp [u8s, hash_size]
  rw [hhc] at hsz
  unfold hashV
  rw [hhc]
  have H3 := Lib.hid hr3
  have HB3 := Lib.hid b3
  have HSZ := Lib.hid hsz
  have HON := Lib.hid hone
  have HOL := Lib.hid hold
  have HHC := Lib.hid hhc
  clear hr3 b3 hsz hone hold hhc
  go_wp2_with (refine wpList_store_row rfl 25 (.tmp 2) (.tmp 9) rfl w.heap.size hc (by rfl) (by rfl) 25 _ H3.out HSZ.out HOL.out HON.out ?_)
  have hset := setRow_same W3 w.heap.size hc _ 25 (0, 0) H3.out
  refine bodyPost_ret (v := .agg hc) (results_cell_row rfl _ _ w.heap.size 25 hc (0, 0) _ (by rfl) hset Tryd.underlying25 rfl HSZ.out) rfl ?_
  refine ⟨by rw [hashV, HHC.out], ?_⟩
  have g3 := (HC2.out.mono (T := fun i => w.heap.size ≤ i) (fun _ _ h => h.elim)).then (Chg.of_below HB3.out (fun _ => False)) (fun i hi => hi.elim)
  exact (g3.setRow w.heap.size (.inl (Nat.le_refl _)) hc).below (Nat.le_refl _) (fun _ h => h)
end Go.Proofs.YtaahffminoekfaaDoor
