import Derived.Test.YtaahffminoekfaaDoorA4
import Derived.Deep.RegionLaw
namespace Go.Proofs.YtaahffminoekfaaDoor
open Go.RowKit
def WPost (base p : Nat) (l xs : List Int) (rv : Value) (w : World) (e : Ending) (w' : World) : Prop :=
  ∃ rv', e = .returned (.tuple #[]) ∧ Dig w' base p (l ++ xs) rv' ∧ Chg (fun k => k = p ∨ rv.ownBlock = some k) w w' ∧ (rv'.ownBlock = rv.ownBlock ∨ ∃ g, rv'.ownBlock = some g ∧ w.heap.size ≤ g)
def slen : Value → Nat
  | .slice _ n _ => n
  | _ => 0
theorem own_shape {w : World} {base n : Nat} {e : TypeId} {size : Nat} {v : Value} {xs : List Value} (h : w.ownsRow base e size v n xs) : ∃ A c, v = .slice A n c := by
  rcases h.2 with ⟨rfl, rfl⟩ | ⟨g, cap, cur, rfl, _⟩
  · exact ⟨none, 0, rfl⟩
  · exact ⟨_, cap, rfl⟩
theorem rest_small (l xs : List Int) (h : l.length % 64 + xs.length < 64) : (l ++ xs).length / 64 = l.length / 64 ∧ (l ++ xs).length % 64 = l.length % 64 + xs.length ∧ restOf (l ++ xs) = restOf l ++ xs := by
  have e : (l ++ xs).length / 64 = l.length / 64 := by rw [List.length_append]; omega
  refine ⟨e, by rw [List.length_append]; omega, ?_⟩
  unfold restOf
  rw [e, List.drop_append_of_le_length (by omega)]
theorem blockAt_join (l xs : List Int) (kk : Nat) (h : l.length % 64 + kk = 64) : blockAt (l ++ xs) (l.length / 64) = restOf l ++ xs.take kk := by
  unfold blockAt restOf
  rw [List.drop_append_of_le_length (by omega), List.take_append]
  have e1 : (List.drop (64 * (l.length / 64)) l).length = l.length % 64 := by simp; omega
  rw [e1, List.take_of_length_le (by rw [e1]; omega)]
  congr 2; omega
set_option maxRecDepth 100000 in
set_option maxHeartbeats 1000000 in
theorem write_small (base p : Nat) (l xs : List Int) (rv v : Value) (w : World) (hd : Dig w base p l rv) (hv : SlB w v xs)
    (hap : ∀ b, Value.blk v = some b → 0 < xs.length → b ≠ p ∧ rv.ownBlock ≠ some b) (hx : Bytes xs) (hl : Bytes l) (hlen : l.length + xs.length ≤ 1000000000) (hla : Laid w) (_hb2 : 2 ≤ base) (h0 : ¬ (l.length : Int) % 64 = 0) (hk : l.length % 64 + xs.length < 64) :
    Calls Tryd.prog 25 #[.pointer (some ⟨p, 0, none⟩), v] w (WPost base p l xs rv w) := by
  obtain ⟨A, c, rfl, hc1, hc2⟩ := hv.shape
  obtain ⟨R, rc, rfl⟩ := own_shape hd.row
  have c8 : w.cell? ⟨p, 8, none⟩ = some (.slice R (l.length % 64) rc) := cell_of_row w p 8 _ _ _ hd.cells
  have c9 : w.cell? ⟨p, 9, none⟩ = some (.int .i64 (l.length : Int)) := cell_of_row w p 9 _ _ _ hd.cells
  have f9 : w.frozen? ⟨p, 9, none⟩ = false := frozen_of_row w p 9 _ _ hd.cells
  have HD := Lib.hid hd
  have HV := Lib.hid hv
  have HA := Lib.hid hap
  have HX := Lib.hid hx
  have HL := Lib.hid hl
  have HLa := Lib.hid hla
  clear hd hv hap hx hl hla
  obtain ⟨v2, Hv2, hb2', hsl⟩ := slice_to (P := Tryd.prog) 22 5 Tryd.underlying22 (by kernel_rfl) w _ xs xs.length HV.out (Nat.le_refl _)
  obtain ⟨A2, d2, rfl, hd1, hd2⟩ := Hv2.shape
  rw [List.take_length] at Hv2 hd1 hsl hb2'
  have HV2 := Lib.hid Hv2
  have HB2 := Lib.hid hb2'
  obtain ⟨v5, _, _, hsf⟩ := slice_from (P := Tryd.prog) 22 5 Tryd.underlying22 (by kernel_rfl) w _ xs xs.length HV.out (Nat.le_refl _)
  clear Hv2 hb2'
  go_enter Tryd.func25, Tryd.ntmps25
  go_wp2_with fail
  obtain ⟨W1, hW1⟩ : ∃ W1, W1 = w.setCell ⟨p, 9, none⟩ (.int .i64 (↑l.length + ↑xs.length)) := ⟨_, rfl⟩
  rw [← hW1]
  have k1 : Chg (· = p) w W1 := by rw [hW1]; exact (Chg.refl (· = p) w).setCell ⟨p, 9, none⟩ (.inl rfl) _
  have hp1 : W1.heap[p]? = some (.cells (stcells (stN l (l.length/64)) ++ #[.slice R (l.length % 64) rc, .int .i64 (↑l.length + ↑xs.length)]) 86 (0, 0)) := by
    rw [hW1, heap_setCell_same _ _ _ _ _ _ HD.out.cells]; rfl
  have hpz : p < W1.heap.size := (Array.getElem?_eq_some_iff.1 hp1).1
  have o1 : W1.drew.ownsRow base 5 1 (.slice R (l.length % 64) rc) (l.length % 64) (u8s (restOf l)) :=
    own_chg HD.out.row k1.drew (fun k hk he => HD.out.apart (by rw [hk, he]))
  have s1 : Src W1.drew (.slice A2 xs.length d2) 1 xs.length (u8s xs) := HV2.out.chg k1.drew (fun b hb hn => (HA.out b (HB2.out ▸ hb) hn).1) (by decide)
  obtain ⟨v3, W3, hrun, ho3, hg3, hn3, hb3⟩ := ap_run (P := Tryd.prog) W1.drew 22 22 base 5 (.int .u8 0) 1 1 Tryd.underlying22 (by kernel_rfl) rfl (by decide) _ _ _ o1 _ _ _ s1 (u8s_one xs) (by omega) (by omega) (Nat.le_trans HD.out.pb (Nat.le_of_lt hpz))
  have c8' : W1.cell? ⟨p, 8, none⟩ = some (.slice R (l.length % 64) rc) := cell_of_row W1 p 8 _ _ _ hp1
  have hp3 : W3.heap[p]? = some (.cells (stcells (stN l (l.length/64)) ++ #[.slice R (l.length % 64) rc, .int .i64 (↑l.length + ↑xs.length)]) 86 (0, 0)) :=
    (Chg.of_grownBy hg3).heap (w := W1.drew) hp1 (fun he => HD.out.apart he.symm)
  have c83 : W3.cell? ⟨p, 8, none⟩ = some (.slice R (l.length % 64) rc) := cell_of_row W3 p 8 _ _ _ hp3
  have f83 : W3.frozen? ⟨p, 8, none⟩ = false := frozen_of_row W3 p 8 _ _ hp3
  obtain ⟨A3, d3, rfl⟩ := own_shape ho3
  have HO3 := Lib.hid ho3
  have HG3 := Lib.hid hg3
  have HN3 := Lib.hid hn3
  have HB3 := Lib.hid hb3
  have HP3 := Lib.hid hp3
  have HP1 := Lib.hid hp1
  clear ho3 hg3 hn3 hb3 hp3 hp1 o1 hW1
  go_region_law ((refine step_run_append (by rfl) _ _ 22 (by rfl) _ _ (by rfl) (by rfl) 22 (by rfl) hrun ?_))
  go_wp2
  refine bodyPost_ret (results_none rfl _ _ _) rfl ?_
  obtain ⟨q1, q2, q3⟩ := rest_small l xs hk
  refine ⟨.slice A3 (l.length % 64 + xs.length) d3, rfl, ⟨?_, ?_, HD.out.pb⟩, ?_, ?_⟩
  · rw [heap_setCell_same _ _ _ _ _ _ HP3.out, q1, stN_append l xs _ (by omega)]
    simp only [List.length_append, Int.natCast_add]
    rfl
  · rw [q2, q3]
    have hne : (Value.slice A3 (l.length % 64 + xs.length) d3).ownBlock ≠ some p := by
      rcases HB3.out with hb | hb
      · rw [hb]; exact HD.out.apart
      · rw [hb]; intro he; injection he with he; have : W1.drew.heap.size = W1.heap.size := rfl; omega
    have := own_chg HO3.out ((Chg.refl (· = p) W3).setCell ⟨p, 8, none⟩ (.inl rfl) (Value.slice A3 (l.length % 64 + xs.length) d3)) (fun k hk he => hne (by rw [hk, he]))
    simpa [u8s] using this
  · have := k1.drew.mono (T := fun k => k = p ∨ (Value.slice R (l.length % 64) rc).ownBlock = some k) (fun i _ hi => .inl hi)
    have := this.then (Chg.of_grownBy HG3.out) (fun i hi => .inl (.inr hi.symm))
    exact this.setCell ⟨p, 8, none⟩ (.inl (.inl rfl)) _
  · rcases HB3.out with hb | hb
    · exact .inl hb
    · exact .inr ⟨_, hb, k1.drew.size⟩
set_option maxRecDepth 100000 in
set_option maxHeartbeats 1000000 in
theorem write_any (base p : Nat) (l xs : List Int) (rv v : Value) (w : World) (hd : Dig w base p l rv) (hv : SlB w v xs)
    (hap : ∀ b, Value.blk v = some b → 0 < xs.length → b ≠ p ∧ rv.ownBlock ≠ some b) (hx : Bytes xs) (hl : Bytes l) (hlen : l.length + xs.length ≤ 1000000000) (hla : Laid w) (hb2 : 2 ≤ base) :
    Calls Tryd.prog 25 #[.pointer (some ⟨p, 0, none⟩), v] w (WPost base p l xs rv w) := by
  obtain ⟨A, c, rfl, hc1, hc2⟩ := hv.shape
  obtain ⟨R, rc, rfl⟩ := own_shape hd.row
  have c8 : w.cell? ⟨p, 8, none⟩ = some (.slice R (l.length % 64) rc) := cell_of_row w p 8 _ _ _ hd.cells
  have c9 : w.cell? ⟨p, 9, none⟩ = some (.int .i64 (l.length : Int)) := cell_of_row w p 9 _ _ _ hd.cells
  have f9 : w.frozen? ⟨p, 9, none⟩ = false := frozen_of_row w p 9 _ _ hd.cells
  have HD := Lib.hid hd
  have HV := Lib.hid hv
  have HA := Lib.hid hap
  have HX := Lib.hid hx
  have HL := Lib.hid hl
  have HLa := Lib.hid hla
  clear hd hv hap hx hl hla
  by_cases h0 : (l.length : Int) % 64 = 0
  case' neg =>
    by_cases hk : l.length % 64 + xs.length < 64
    case pos => exact write_small base p l xs _ _ w HD.out HV.out HA.out HX.out HL.out hlen HLa.out hb2 h0 hk
    obtain ⟨kk, hkk⟩ : ∃ kk, kk = 64 - l.length % 64 := ⟨_, rfl⟩
    have hr64 : l.length % 64 < 64 := Nat.mod_lt _ (by decide)
    have hkx : kk ≤ xs.length := by omega
    have hkk0 : 0 < kk := by omega
    have hmin : min (64 - (l.length : Int) % 64) (xs.length : Int) = (kk : Int) := by omega
    have HMIN := Lib.hid hmin
    obtain ⟨v2, Hv2, hb2', hsl⟩ := slice_to (P := Tryd.prog) 22 5 Tryd.underlying22 (by kernel_rfl) w _ xs kk HV.out hkx
    obtain ⟨A2, d2, hv2e, hd1, hd2⟩ := Hv2.shape
    rw [List.length_take, Nat.min_eq_left hkx] at hv2e hd1
    subst hv2e
    have HV2 := Lib.hid Hv2
    have HB2 := Lib.hid hb2'
    obtain ⟨v5, h51, h52, hsf⟩ := slice_from (P := Tryd.prog) 22 5 Tryd.underlying22 (by kernel_rfl) w _ xs kk HV.out hkx
    obtain ⟨B0, b0, hv5, h54, h55⟩ := h51.shape
    obtain ⟨n0, hn0⟩ : ∃ n0, (xs.drop kk).length = n0 := ⟨_, rfl⟩
    rw [hn0] at hv5 h54
    subst hv5
    have HN5 := Lib.hid hn0
    have H51 := Lib.hid h51
    have H52 := Lib.hid h52
    have hki : ((kk : Nat) : Int) = 64 - (l.length : Int) % 64 := by omega
    rw [hki] at hsl hsf
    have HKK := Lib.hid hkk
    clear Hv2 hb2' hn0 h51 h52 hkk hmin hki
    go_enter Tryd.func25, Tryd.ntmps25
    go_wp2_with fail
    obtain ⟨W1, hW1⟩ : ∃ W1, W1 = w.setCell ⟨p, 9, none⟩ (.int .i64 (↑l.length + ↑xs.length)) := ⟨_, rfl⟩
    rw [← hW1]
    have k1 : Chg (· = p) w W1 := by rw [hW1]; exact (Chg.refl (· = p) w).setCell ⟨p, 9, none⟩ (.inl rfl) _
    have hp1 : W1.heap[p]? = some (.cells (stcells (stN l (l.length/64)) ++ #[.slice R (l.length % 64) rc, .int .i64 (↑l.length + ↑xs.length)]) 86 (0, 0)) := by
      rw [hW1, heap_setCell_same _ _ _ _ _ _ HD.out.cells]; rfl
    have hpz : p < W1.heap.size := (Array.getElem?_eq_some_iff.1 hp1).1
    have o1 : W1.drew.ownsRow base 5 1 (.slice R (l.length % 64) rc) (l.length % 64) (u8s (restOf l)) :=
      own_chg HD.out.row k1.drew (fun k hk he => HD.out.apart (by rw [hk, he]))
    have s1 : Src W1.drew (.slice A2 kk d2) 1 kk (u8s (xs.take kk)) := by
      have := HV2.out
      unfold SlB at this
      rw [List.length_take, Nat.min_eq_left hkx] at this
      exact this.chg k1.drew (fun b hb hn => (HA.out b (HB2.out ▸ hb) (by omega)).1) (by decide)
    obtain ⟨v3, W3, hrun, ho3, hg3, hn3, hb3⟩ := ap_run (P := Tryd.prog) W1.drew 22 22 base 5 (.int .u8 0) 1 1 Tryd.underlying22 (by kernel_rfl) rfl (by decide) _ _ _ o1 _ _ _ s1 (u8s_one _) (by omega) (by omega) (Nat.le_trans HD.out.pb (Nat.le_of_lt hpz))
    have c8' : W1.cell? ⟨p, 8, none⟩ = some (.slice R (l.length % 64) rc) := cell_of_row W1 p 8 _ _ _ hp1
    have hp3 : W3.heap[p]? = some (.cells (stcells (stN l (l.length/64)) ++ #[.slice R (l.length % 64) rc, .int .i64 (↑l.length + ↑xs.length)]) 86 (0, 0)) :=
      (Chg.of_grownBy hg3).heap (w := W1.drew) hp1 (fun he => HD.out.apart he.symm)
    have c83 : W3.cell? ⟨p, 8, none⟩ = some (.slice R (l.length % 64) rc) := cell_of_row W3 p 8 _ _ _ hp3
    have f83 : W3.frozen? ⟨p, 8, none⟩ = false := frozen_of_row W3 p 8 _ _ hp3
    have hsum : l.length % 64 + kk = 64 := by have := HKK.out; omega
    rw [hsum] at ho3
    obtain ⟨g3, d3, rfl, hg3b, hd3, hd3m⟩ := own_form ho3 (by decide)
    have HO3 := Lib.hid ho3
    have HG3 := Lib.hid hg3
    have HN3 := Lib.hid hn3
    have HB3 := Lib.hid hb3
    have HP3 := Lib.hid hp3
    have HP1 := Lib.hid hp1
    have HS1 := Lib.hid hsum
    clear ho3 hg3 hn3 hb3 hp3 hp1 o1 hW1 hsum
    go_region_law ((refine step_run_append (by rfl) _ _ 22 (by rfl) _ _ (by rfl) (by rfl) 22 (by rfl) hrun ?_))
    clear hrun
    go_wp2_with fail
    have hgp : g3 ≠ p := by
      rintro rfl
      rcases HB3.out with hb | hb
      · exact HD.out.apart (by rw [← hb]; rfl)
      · simp [Value.ownBlock] at hb; omega
    have hp4 : (W3.setCell ⟨p, 8, none⟩ (.slice (some ⟨g3, 0, none⟩) 64 d3)).heap[p]? = some (.cells (stcells (stN l (l.length/64)) ++ #[.slice (some ⟨g3, 0, none⟩) 64 d3, .int .i64 (↑l.length + ↑xs.length)]) 86 (0, 0)) := by
      rw [heap_setCell_same _ _ _ _ _ _ HP3.out]; rfl
    have k13 : Chg (fun k => k = p ∨ (Value.slice R (l.length % 64) rc).ownBlock = some k) w W3 := (k1.drew.mono (fun i _ hi => .inl hi)).then (Chg.of_grownBy HG3.out) (fun i hi => .inl (.inr hi.symm))
    have k14 : Chg (fun k => k = p ∨ (Value.slice R (l.length % 64) rc).ownBlock = some k) w (W3.setCell ⟨p, 8, none⟩ (.slice (some ⟨g3, 0, none⟩) 64 d3)) := k13.setCell ⟨p, 8, none⟩ (.inl (.inl rfl)) _
    have hS : ∀ i, i < 2 → ¬ (i = p ∨ (Value.slice R (l.length % 64) rc).ownBlock = some i) := by
      rintro i hi (h | h)
      · have := HD.out.pb; omega
      · have := (HD.out.row.lt i h).1; omega
    have hla := HLa.out.chg k14 (hS 0 (by omega)) (hS 1 (by omega))
    have hjoin := blockAt_join l xs kk HS1.out
    have hlen64 : (blockAt (l ++ xs) (l.length / 64)).length = 64 := by
      rw [hjoin, List.length_append, restOf_len, List.length_take, Nat.min_eq_left hkx]; exact HS1.out
    have hBC : ∀ j, j < 64 → (W3.setCell ⟨p, 8, none⟩ (.slice (some ⟨g3, 0, none⟩) 64 d3)).cell? ⟨g3, 0 + j, none⟩ = some (.int .u8 ((blockAt (l ++ xs) (l.length / 64)).getD j 0)) := fun j hj => by
      have h1 := HO3.out.cells (g := g3) rfl j (.int .u8 ((blockAt (l ++ xs) (l.length / 64)).getD j 0)) (by
        rw [hjoin, ← u8s_at (by rw [← hjoin, hlen64]; exact hj)]
        simp [u8s])
      rw [addr_add] at h1
      exact ((Chg.refl (· = p) W3).setCell ⟨p, 8, none⟩ (.inl rfl) _).cell h1 hgp
    have hBy : Bytes (blockAt (l ++ xs) (l.length / 64)) := ((HL.out.append HX.out).drop _).take _
    refine (block_any p g3 0 64 d3 (stN l (l.length / 64)) (↑l.length + ↑xs.length) _ (blockAt (l ++ xs) (l.length / 64)) _ (by omega) (by omega) (by omega) hlen64 hBC hBy hla.tab hla.lt (stN_ok _ _) hp4).mono ?_
    rintro e W5 ⟨rfl, hp5, hc5⟩
    have c85 : W5.cell? ⟨p, 8, none⟩ = some (.slice (some ⟨g3, 0, none⟩) 64 d3) := cell_of_row W5 p 8 _ _ _ hp5
    have f85 : W5.frozen? ⟨p, 8, none⟩ = false := frozen_of_row W5 p 8 _ _ hp5
    have HP5 := Lib.hid hp5
    have HC5 := Lib.hid hc5
    have K14 := Lib.hid k14
    have HJ := Lib.hid hjoin
    clear hp5 hc5 hp4 k13 k14 hS hla hjoin hlen64 hBC hBy
    go_wp2_with fail
    obtain ⟨W0, hW0⟩ : ∃ W0, W0 = W5.setCell ⟨p, 8, none⟩ (.slice (some ⟨g3, 0, none⟩) 0 d3) := ⟨_, rfl⟩
    rw [← hW0]
    obtain ⟨c0, hc0⟩ : ∃ c0, c0 = l.length / 64 + 1 := ⟨_, rfl⟩
    have hcl : 64 * c0 ≤ (l ++ xs).length := by rw [hc0, List.length_append]; omega
    have hdrop : (l ++ xs).drop (64 * c0) = xs.drop kk := by
      have e : 64 * c0 = l.length + kk := by have := HKK.out; omega
      rw [e, List.drop_append]
      simp
    have HC0 : Hid (Chg (fun k => k = p ∨ (Value.slice R (l.length % 64) rc).ownBlock = some k) w W0) := Lib.hid (by
      rw [hW0]; exact (K14.out.then HC5.out (fun i hi => .inl (.inl hi))).setCell ⟨p, 8, none⟩ (.inl (.inl rfl)) _)
    obtain ⟨R1, rc1, HP0, HO0, HR⟩ : ∃ R1 rc1, Hid (W0.heap[p]? = some (.cells (stcells (stN (l ++ xs) c0) ++ #[.slice R1 0 rc1, .int .i64 (↑l.length + ↑xs.length)]) 86 (0, 0))) ∧
        Hid (W0.ownsRow base 5 1 (.slice R1 0 rc1) 0 []) ∧ Hid ((Value.slice R1 0 rc1).ownBlock = (Value.slice R (l.length % 64) rc).ownBlock ∨ ∃ g, (Value.slice R1 0 rc1).ownBlock = some g ∧ w.heap.size ≤ g) := by
      refine ⟨some ⟨g3, 0, none⟩, d3, ?_, ?_, ?_⟩
      · show W0.heap[p]? = _
        rw [hW0, heap_setCell_same _ _ _ _ _ _ HP5.out, hc0, stN_succ, stN_append l xs _ (by omega)]; rfl
      · have h1 := own_chg HO3.out ((Chg.refl (· = p) W3).setCell ⟨p, 8, none⟩ (.inl rfl) (.slice (some ⟨g3, 0, none⟩) 64 d3)) (fun k hk he => by injection hk with hk; exact hgp (hk.trans he))
        have h2 := own_chg h1 HC5.out (fun k hk he => by injection hk with hk; exact hgp (hk.trans he))
        have h3 := own_chg h2 ((Chg.refl (· = p) W5).setCell ⟨p, 8, none⟩ (.inl rfl) (.slice (some ⟨g3, 0, none⟩) 0 d3)) (fun k hk he => by injection hk with hk; exact hgp (hk.trans he))
        rw [← hW0] at h3
        rcases h3.2 with ⟨h, _⟩ | ⟨g, cap, cur, he, hb, hg, _, h2, h3, _⟩
        · cases h
        · injection he with e1 e2 e3
          injection e1 with e1
          injection e1 with e1
          subst e1 e3
          exact ⟨by simp, .inr ⟨g3, d3, cur, rfl, hb, hg, Nat.zero_le _, h2, h3, by simp⟩⟩
      · show (some g3 = _ ∨ ∃ g, some g3 = some g ∧ w.heap.size ≤ g)
        rcases HB3.out with hb | hb
        · exact .inl hb
        · refine .inr ⟨g3, rfl, ?_⟩
          have hb' : g3 = W1.drew.heap.size := by injection hb
          rw [hb']; exact k1.drew.size
    have HB0 : Hid (n0 ≤ xs.length ∧ n0 = ((l ++ xs).drop (64 * c0)).length ∧ SlB w (.slice B0 n0 b0) ((l ++ xs).drop (64 * c0))) := by
      refine ⟨by rw [← HN5.out]; simp, by rw [hdrop, HN5.out], ?_⟩
      rw [hdrop]; exact H51.out
    have HN0 : Hid (0 < ((l ++ xs).drop (64 * c0)).length → Value.blk (.slice B0 n0 b0) = Value.blk (.slice A xs.length c)) := by
      show 0 < ((l ++ xs).drop (64 * c0)).length → _
      rw [hdrop]; exact H52.out
    clear hW0 hc0 hdrop hgp c85 f85 c83 f83 c8'
  case' pos =>
    obtain ⟨W0, hW0⟩ : ∃ W1, W1 = w.setCell ⟨p, 9, none⟩ (.int .i64 (↑l.length + ↑xs.length)) := ⟨_, rfl⟩
    have e0 : l.length % 64 = 0 := by omega
    have HS0 : Hid (SlB w (.slice A xs.length c) ((l ++ xs).drop (64 * (l.length / 64)))) := by
      have : (l ++ xs).drop (64 * (l.length / 64)) = xs := by
        rw [show 64 * (l.length / 64) = l.length from by omega, List.drop_left]
      rw [this]; exact HV
    obtain ⟨c0, hc0⟩ : ∃ c0, c0 = l.length / 64 := ⟨_, rfl⟩
    have HC0 : Hid (Chg (fun k => k = p ∨ (Value.slice R (l.length % 64) rc).ownBlock = some k) w W0) := Lib.hid (by
      rw [hW0]; exact (Chg.refl _ w).setCell ⟨p, 9, none⟩ (.inl (.inl rfl)) _)
    obtain ⟨R1, rc1, HP0, HO0, HR⟩ : ∃ R1 rc1, Hid (W0.heap[p]? = some (.cells (stcells (stN (l ++ xs) c0) ++ #[.slice R1 0 rc1, .int .i64 (↑l.length + ↑xs.length)]) 86 (0, 0))) ∧
        Hid (W0.ownsRow base 5 1 (.slice R1 0 rc1) 0 []) ∧ Hid ((Value.slice R1 0 rc1).ownBlock = (Value.slice R (l.length % 64) rc).ownBlock ∨ ∃ g, (Value.slice R1 0 rc1).ownBlock = some g ∧ w.heap.size ≤ g) := by
      refine ⟨R, rc, ?_, ?_, Or.inl (by cases R <;> rfl)⟩
      · show W0.heap[p]? = _
        rw [hW0, heap_setCell_same _ _ _ _ _ _ HD.out.cells, hc0, stN_append _ _ _ (by omega), e0]; rfl
      · have := own_chg HD.out.row ((Chg.refl (· = p) w).setCell ⟨p, 9, none⟩ (.inl rfl) (.int .i64 (↑l.length + ↑xs.length))) (fun k hk he => HD.out.apart (by rw [hk, he]))
        have hr : restOf l = [] := List.eq_nil_of_length_eq_zero (by rw [restOf_len]; omega)
        rw [← hW0, e0, hr] at this
        exact this
    have hcl : 64 * c0 ≤ (l ++ xs).length := by rw [hc0, List.length_append]; omega
    rw [← hc0] at HS0
    obtain ⟨B0, n0, b0, hv0, HB0, HN0⟩ : ∃ B0 n0 b0, Value.slice A xs.length c = .slice B0 n0 b0 ∧ Hid (n0 ≤ xs.length ∧ n0 = ((l ++ xs).drop (64 * c0)).length ∧ SlB w (.slice B0 n0 b0) ((l ++ xs).drop (64 * c0))) ∧
        Hid (0 < ((l ++ xs).drop (64 * c0)).length → Value.blk (.slice B0 n0 b0) = Value.blk (.slice A xs.length c)) :=
      ⟨A, xs.length, c, rfl, ⟨Nat.le_refl _, by simp; omega, HS0.out⟩, Lib.hid (fun _ => rfl)⟩
    clear HS0
    have HV0 := Lib.hid hv0
    clear hv0
    go_enter Tryd.func25, Tryd.ntmps25
    go_wp2_with fail
    rw [← hW0]
    clear hW0 hc0 e0
    have hv0 := HV0.out
    rw [hv0]
    clear hv0 HV0
  all_goals
    go_loopw [1] (fun v wr => ∃ (k : Nat) (B : Option Addr) (nb cb : Nat), 64 * k ≤ (l ++ xs).length ∧ v = .slice B nb cb ∧ nb ≤ xs.length ∧ nb = ((l ++ xs).drop (64 * k)).length ∧ SlB w (.slice B nb cb) ((l ++ xs).drop (64 * k)) ∧
      (0 < ((l ++ xs).drop (64 * k)).length → Value.blk (.slice B nb cb) = Value.blk (.slice A xs.length c)) ∧
      wr.heap[p]? = some (.cells (stcells (stN (l ++ xs) k) ++ #[.slice R1 0 rc1, .int .i64 (↑l.length + ↑xs.length)]) 86 (0, 0)) ∧ Chg (fun k => k = p ∨ (Value.slice R (l.length % 64) rc).ownBlock = some k) w wr ∧ wr.ownsRow base 5 1 (.slice R1 0 rc1) 0 []) (fun v _ => slen v)
    case atStart => exact ⟨c0, B0, n0, b0, hcl, rfl, HB0.out.1, HB0.out.2.1, HB0.out.2.2, HN0.out, HP0.out, HC0.out, HO0.out⟩
    case round =>
      obtain ⟨k, B, nb, cb, hk, rfl, hnx, hnb, hsb, hbb, hpp, hcc, hoo⟩ := hrel
      have HNB := Lib.hid hnb
      have HSB := Lib.hid hsb
      have HBB := Lib.hid hbb
      have HPP := Lib.hid hpp
      have HCC := Lib.hid hcc
      have HOO := Lib.hid hoo
      clear hnb hsb hbb hpp hcc hoo HP0 HC0 HO0 HB0 HN0 c8 c9 f9
      by_cases h64 : 64 ≤ nb
      · have hlk : 64 ≤ ((l ++ xs).drop (64 * k)).length := by rw [← HNB.out]; exact h64
        obtain ⟨bb, off, cb', he, hb1, hb2⟩ := HSB.out.form (by omega)
        injection he with he1 he2 he3
        subst he1 he3
        rw [← HNB.out] at hb1
        clear he2
        obtain ⟨v5, h51, h52, h53⟩ := slice_from (P := Tryd.prog) 22 5 Tryd.underlying22 (by kernel_rfl) w _ _ 64 HSB.out hlk
        rw [show ((64 : Nat) : Int) = 64 from rfl] at h53
        obtain ⟨B5, c5, hv5, h54, h55⟩ := h51.shape
        have h64i : (64 : Int) ≤ (nb : Int) := by omega
        have hblk : Value.blk (.slice A xs.length c) = some bb := (HBB.out (by omega)).symm
        have hx0 : 0 < xs.length := by omega
        have hdl : ((l ++ xs).drop (64 * k)).length = (l ++ xs).length - 64 * k := by rw [List.length_drop]
        have hk1 : 64 * (k + 1) ≤ (l ++ xs).length := by omega
        have hnb5 : ((l ++ xs).drop (64 * (k + 1))).length = nb - 64 := by rw [List.length_drop, HNB.out, hdl]; omega
        have hdd : (List.drop 64 (List.drop (64 * k) (l ++ xs))) = (l ++ xs).drop (64 * (k + 1)) := by rw [List.drop_drop]; congr 1
        rw [hdd] at h51 h52 hv5 h54
        obtain ⟨n5, hn5⟩ : ∃ n5, ((l ++ xs).drop (64 * (k + 1))).length = n5 := ⟨_, rfl⟩
        rw [hn5] at hv5 h54
        subst hv5
        have H51 := Lib.hid h51
        have H52 := Lib.hid h52
        have hn64 : n5 = nb - 64 := by rw [← hn5]; exact hnb5
        have HN5 : Hid (((l ++ xs).drop (64 * (k + 1))).length = n5 ∧ n5 = nb - 64) := ⟨hn5, hn64⟩
        clear h51 h52 hdd hnb5 hdl hn5 hn64
        have hS : ∀ i, i < 2 → ¬ (i = p ∨ (Value.slice R (l.length % 64) rc).ownBlock = some i) := by
          rintro i hi (h | h)
          · have := HD.out.pb; omega
          · have := (HD.out.row.lt i h).1; omega
        have hla := HLa.out.chg HCC.out (hS 0 (by omega)) (hS 1 (by omega))
        have hSb : ¬ (bb = p ∨ (Value.slice R (l.length % 64) rc).ownBlock = some bb) := by
          rintro (h | h)
          · exact (HA.out bb hblk hx0).1 h
          · exact (HA.out bb hblk hx0).2 h
        have hblen : (blockAt (l ++ xs) k).length = 64 := by rw [blockAt, List.length_take]; omega
        have hBC : ∀ j, j < 64 → wr.cell? ⟨bb, off + j, none⟩ = some (.int .u8 ((blockAt (l ++ xs) k).getD j 0)) := fun j hj => by
          have := HSB.out.at_ j (by omega)
          rw [blockAt, getD_take _ _ _ hj]
          exact HCC.out.cell this hSb
        have hBy : Bytes (blockAt (l ++ xs) k) := ((HL.out.append HX.out).drop _).take _
        have HLA := Lib.hid hla
        have HBC := Lib.hid hBC
        have HBY := Lib.hid hBy
        have HBL := Lib.hid hblen
        clear hla hBC hBy hblen hblk hS hSb
        go_wp2_with fail
        refine (block_any p bb off 64 cb (stN (l ++ xs) k) (↑l.length + ↑xs.length) (.slice R1 0 rc1) (blockAt (l ++ xs) k) wr (by omega) (by omega) (by omega) HBL.out HBC.out HBY.out HLA.out.tab HLA.out.lt (stN_ok _ _) HPP.out).mono ?_
        rintro e w' ⟨rfl, hp2, hc2'⟩
        have HP2 := Lib.hid hp2
        have HC2 := Lib.hid hc2'
        clear hp2 hc2'
        go_wp2
        go_roundw
        case rel =>
          refine ⟨k + 1, B5, n5, c5, hk1, rfl, by have := HN5.out.2; omega, HN5.out.1.symm, H51.out, ?_, ?_, ?_, ?_⟩
          · intro hpos
            rw [H52.out hpos]; exact HBB.out (by rw [← HNB.out]; omega)
          · rw [stN_succ]; exact HP2.out
          · exact HCC.out.then HC2.out (fun i hi => .inl (.inl hi))
          · exact own_chg HOO.out HC2.out (fun i hi he => by
              rcases HR.out with h | ⟨g, h, hg⟩
              · exact HD.out.apart (by rw [← h, hi, he])
              · have := (HOO.out.lt i hi).2
                subst he
                rw [hi] at h; injection h with h
                have := (Array.getElem?_eq_some_iff.1 HD.out.cells).1
                omega)
        case measure => have := HN5.out.2; simp [slen]; omega
      · have hS2 : ¬ ((Value.slice R1 0 rc1).ownBlock = some p) := by
          intro he
          rcases HR.out with h | ⟨g, h, hg⟩
          · exact HD.out.apart (by rw [← h, he])
          · rw [he] at h; injection h with h
            have := (Array.getElem?_eq_some_iff.1 HD.out.cells).1
            omega
        have hpz : p < wr.heap.size := (Array.getElem?_eq_some_iff.1 HPP.out).1
        have s1 : Src wr (.slice B nb cb) 1 nb (u8s ((l ++ xs).drop (64 * k))) := by
          have := HSB.out
          unfold SlB at this
          rw [← HNB.out] at this
          refine this.chg HCC.out (fun b hb hn => ?_) (by decide)
          have hblk := HBB.out (by rw [← HNB.out]; exact hn)
          rw [hb] at hblk
          rintro (h | h)
          · exact (HA.out b hblk.symm (by omega)).1 h
          · exact (HA.out b hblk.symm (by omega)).2 h
        obtain ⟨v3, W3, hrun, ho3, hg3, hn3, hb3⟩ := ap_run (P := Tryd.prog) wr 22 22 base 5 (.int .u8 0) 1 1 Tryd.underlying22 (by kernel_rfl) rfl (by decide) _ _ _ HOO.out _ _ _ s1 (u8s_one _) (by omega) (by omega) (Nat.le_trans HD.out.pb (Nat.le_of_lt hpz))
        have c8' : wr.cell? ⟨p, 8, none⟩ = some (.slice R1 0 rc1) := cell_of_row wr p 8 _ _ _ HPP.out
        have hp3 := (Chg.of_grownBy hg3).heap HPP.out (fun he => hS2 he.symm)
        have c83 : W3.cell? ⟨p, 8, none⟩ = some (.slice R1 0 rc1) := cell_of_row W3 p 8 _ _ _ hp3
        have f83 : W3.frozen? ⟨p, 8, none⟩ = false := frozen_of_row W3 p 8 _ _ hp3
        obtain ⟨A3, d3, rfl⟩ := own_shape ho3
        rw [Nat.zero_add] at ho3 hrun hn3 hb3
        have HO3 := Lib.hid ho3
        have HG3 := Lib.hid hg3
        have HN3 := Lib.hid hn3
        have HB3 := Lib.hid hb3
        have HP3 := Lib.hid hp3
        have HR1 := Lib.hid hrun
        have H64 := Lib.hid h64
        have h64i : ¬ (64 : Int) ≤ (nb : Int) := by omega
        clear ho3 hg3 hn3 hb3 hp3 s1 hS2 hrun
        go_wp2_with (at_builtin; refine wpList_run_append rfl _ _ 22 rfl _ _ rfl rfl 22 rfl HR1.out ?_)
        go_end0
        have hke : k = (l ++ xs).length / 64 := by
          have := HNB.out; rw [List.length_drop] at this; omega
        have hre : (l ++ xs).drop (64 * k) = restOf (l ++ xs) := by unfold restOf; rw [← hke]
        have hnb2 : nb = (l ++ xs).length % 64 := by rw [HNB.out, hre, restOf_len]
        have hne : (Value.slice A3 nb d3).ownBlock ≠ some p := by
          rcases HB3.out with hb | hb
          · rw [hb]; intro he
            rcases HR.out with h | ⟨g, h, hg⟩
            · exact HD.out.apart (by rw [← h, he])
            · rw [he] at h; injection h with h
              have := (Array.getElem?_eq_some_iff.1 HD.out.cells).1
              omega
          · rw [hb]; intro he; injection he with he; omega
        refine ⟨.slice A3 nb d3, rfl, ⟨?_, ?_, HD.out.pb⟩, ?_, ?_⟩
        · rw [heap_setCell_same _ _ _ _ _ _ HP3.out, ← hke]
          simp only [List.length_append, Int.natCast_add]
          rfl
        · rw [← hnb2, ← hre]
          have := own_chg HO3.out ((Chg.refl (· = p) W3).setCell ⟨p, 8, none⟩ (.inl rfl) (Value.slice A3 nb d3)) (fun k hk he => hne (by rw [hk, he]))
          simpa using this
        · have := HCC.out.then (Chg.of_grownBy HG3.out) (fun i hi => by
            rcases HR.out with h | ⟨g, h, hg⟩
            · exact .inl (.inr (by rw [← h]; exact hi.symm))
            · rw [h] at hi; injection hi with hi; exact .inr (by omega))
          exact this.setCell ⟨p, 8, none⟩ (.inl (.inl rfl)) _
        · rcases HB3.out with hb | hb
          · rcases HR.out with h | ⟨g, h, hg⟩
            · exact .inl (hb.trans h)
            · exact .inr ⟨g, hb.trans h, hg⟩
          · exact .inr ⟨_, hb, HCC.out.size⟩
end Go.Proofs.YtaahffminoekfaaDoor
