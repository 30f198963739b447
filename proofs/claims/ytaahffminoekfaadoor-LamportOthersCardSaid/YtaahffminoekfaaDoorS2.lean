/-
  sha.Parse, walked.
-/
import Derived.Test.YtaahffminoekfaaDoorS1
namespace Go.Proofs.YtaahffminoekfaaDoor
open Go.RowKit
theorem results_row_tmp {P : Program} {fn : Func} {p u : Tmp} {ty : TypeId} (h : fn.results = #[.cell p ty, .tmp u]) (tmps : Array Value) (w : World) (g : Nat) (t : TypeId) (cs : Array Value) (fr : Nat × Nat) (d : TypeDesc)
    (hp : tmps.getD p undef = .pointer (some ⟨g, 0, none⟩)) (hg : w.heap[g]? = some (.cells cs t fr)) (r : Value) (hr : tmps.getD u undef = r)
    (hu : P.underlying ty = some d) (hd : (match d with | .struct _ | .array _ _ => true | _ => false) = true) (hi : (P.info? ty).map (·.size) = some cs.size) :
    (results fn tmps).run P w = .ok (.tuple #[.agg cs, r]) w := by
  rw [results_cell_tmp h, hp]
  simp [asAddr, run_loadVar_row w g t ty cs fr d hg hu hd hi, Result.andThen]
  simpa using hr
theorem or_shift (a b : Int) (ha : 0 ≤ a) (ha2 : a < 16) (hb : 0 ≤ b) (hb2 : b < 16) : bits .or .i64 (a * 16) b = 16 * a + b := by
  have : ∀ n m : Fin 16, bits .or .i64 (((n : Nat) : Int) * 16) ((m : Nat) : Int) = 16 * ((n : Nat) : Int) + ((m : Nat) : Int) := by decide +kernel
  obtain ⟨n, rfl⟩ := Int.eq_ofNat_of_zero_le ha
  obtain ⟨m, rfl⟩ := Int.eq_ofNat_of_zero_le hb
  exact this ⟨n, by omega⟩ ⟨m, by omega⟩
def decP (ns : List Int) (k : Nat) : List Int := (List.range 32).map fun i => if i < k then 16 * halfI (ns.getD (2 * i) 0) + halfI (ns.getD (2 * i + 1) 0) else 0
theorem decP_set (ns : List Int) (k : Nat) : (decP ns k).set k (16 * halfI (ns.getD (2 * k) 0) + halfI (ns.getD (2 * k + 1) 0)) = decP ns (k + 1) := by
  apply List.ext_getElem (by simp [decP])
  intro i h1 h2
  simp only [decP, List.length_set, List.length_map, List.length_range] at h1
  rw [List.getElem_set]
  simp only [decP, List.getElem_map, List.getElem_range]
  by_cases hk : k = i
  · subst hk
    rw [if_pos rfl, if_pos (by omega)]
  · rw [if_neg hk]
    by_cases hi : i < k
    · rw [if_pos hi, if_pos (by omega)]
    · rw [if_neg hi, if_neg (by omega)]
theorem decP_all (ns : List Int) : decP ns 32 = decI ns := by
  unfold decP decI
  apply List.map_congr_left
  intro i hi
  rw [if_pos (List.mem_range.1 hi)]
theorem decP_len (ns : List Int) (k : Nat) : (decP ns k).length = 32 := by simp [decP]
def zeroH : List Int := List.replicate 32 0
theorem u8s_zero : (u8s zeroH).toArray = (List.replicate 32 (Value.int .u8 0)).toArray := by simp [u8s, zeroH]
theorem decP_zero (ns : List Int) : decP ns 0 = zeroH := by
  unfold decP zeroH
  rw [List.map_congr_left (g := fun _ => (0 : Int)) (fun i _ => by rw [if_neg (by omega)])]
  rfl
/-- What Parse says. -/
def ParsePost (ns : List Int) (w : World) (e : Ending) (w' : World) : Prop :=
  Below w.heap.size w w' ∧ ((e = .returned (.tuple #[hashV (decI ns), .int .i64 0]) ∧ ns.length = 64 ∧ ∀ i, i < 64 → 0 ≤ halfI (ns.getD i 0)) ∨
    (e = .returned (.tuple #[hashV zeroH, .int .i64 10]) ∧ (ns.length = 64 → ∃ i, i < 64 ∧ halfI (ns.getD i 0) < 0)))
theorem lit_zero : (#[.int .u8 0, .int .u8 0, .int .u8 0, .int .u8 0, .int .u8 0, .int .u8 0, .int .u8 0, .int .u8 0, .int .u8 0, .int .u8 0, .int .u8 0, .int .u8 0, .int .u8 0, .int .u8 0, .int .u8 0, .int .u8 0, .int .u8 0, .int .u8 0, .int .u8 0, .int .u8 0, .int .u8 0, .int .u8 0, .int .u8 0, .int .u8 0, .int .u8 0, .int .u8 0, .int .u8 0, .int .u8 0, .int .u8 0, .int .u8 0, .int .u8 0, .int .u8 0] : Array Value) = (u8s zeroH).toArray := by rw [u8s_zero]; rfl
set_option maxRecDepth 100000 in
set_option maxHeartbeats 2000000 in
theorem parse_any (ns : List Int) (w : World) (hb : Bytes ns) :
    Calls Tryd.prog 37 #[.string (strOfNums ns)] w (ParsePost ns w) := by
  have hsz : (strOfNums ns).size = ns.length := strOfNums_size ns
  have hidx := fun k hk => index9 ns k hb hk
  obtain ⟨s, hs⟩ : ∃ s, strOfNums ns = s := ⟨_, rfl⟩
  rw [hs] at hsz hidx ⊢
  have HX := Lib.hid hidx
  have HB := Lib.hid hb
  clear hidx hb hs
  obtain ⟨W0, hW0⟩ : ∃ W0, W0 = (w.alloc (.cells #[.int .u8 0, .int .u8 0, .int .u8 0, .int .u8 0, .int .u8 0, .int .u8 0, .int .u8 0, .int .u8 0, .int .u8 0, .int .u8 0, .int .u8 0, .int .u8 0, .int .u8 0, .int .u8 0, .int .u8 0, .int .u8 0, .int .u8 0, .int .u8 0, .int .u8 0, .int .u8 0, .int .u8 0, .int .u8 0, .int .u8 0, .int .u8 0, .int .u8 0, .int .u8 0, .int .u8 0, .int .u8 0, .int .u8 0, .int .u8 0, .int .u8 0, .int .u8 0] 25)).alloc (.cells #[.int .u8 0, .int .u8 0, .int .u8 0, .int .u8 0, .int .u8 0, .int .u8 0, .int .u8 0, .int .u8 0, .int .u8 0, .int .u8 0, .int .u8 0, .int .u8 0, .int .u8 0, .int .u8 0, .int .u8 0, .int .u8 0, .int .u8 0, .int .u8 0, .int .u8 0, .int .u8 0, .int .u8 0, .int .u8 0, .int .u8 0, .int .u8 0, .int .u8 0, .int .u8 0, .int .u8 0, .int .u8 0, .int .u8 0, .int .u8 0, .int .u8 0, .int .u8 0] 25) := ⟨_, rfl⟩
  have hg2 : W0.heap[w.heap.size]? = some (.cells (u8s zeroH).toArray 25 (0, 0)) := by
    rw [hW0, Below.heap_alloc _ _ _ (by simp), heap_alloc_last, lit_zero]
  have hg4 : W0.heap[w.heap.size + 1]? = some (.cells (u8s (decP ns 0)).toArray 25 (0, 0)) := by
    have := heap_alloc_last (w.alloc (.cells #[.int .u8 0, .int .u8 0, .int .u8 0, .int .u8 0, .int .u8 0, .int .u8 0, .int .u8 0, .int .u8 0, .int .u8 0, .int .u8 0, .int .u8 0, .int .u8 0, .int .u8 0, .int .u8 0, .int .u8 0, .int .u8 0, .int .u8 0, .int .u8 0, .int .u8 0, .int .u8 0, .int .u8 0, .int .u8 0, .int .u8 0, .int .u8 0, .int .u8 0, .int .u8 0, .int .u8 0, .int .u8 0, .int .u8 0, .int .u8 0, .int .u8 0, .int .u8 0] 25)) (.cells #[.int .u8 0, .int .u8 0, .int .u8 0, .int .u8 0, .int .u8 0, .int .u8 0, .int .u8 0, .int .u8 0, .int .u8 0, .int .u8 0, .int .u8 0, .int .u8 0, .int .u8 0, .int .u8 0, .int .u8 0, .int .u8 0, .int .u8 0, .int .u8 0, .int .u8 0, .int .u8 0, .int .u8 0, .int .u8 0, .int .u8 0, .int .u8 0, .int .u8 0, .int .u8 0, .int .u8 0, .int .u8 0, .int .u8 0, .int .u8 0, .int .u8 0, .int .u8 0] 25)
    rw [World.size_alloc, ← hW0] at this
    rw [this, decP_zero, lit_zero]
  have hbel : Below w.heap.size w W0 := by rw [hW0]; exact (((Below.refl _ _).alloc (Nat.le_refl _) _).alloc (by simp) _)
  have hsz0 : W0.heap.size = w.heap.size + 2 := by rw [hW0, World.size_alloc, World.size_alloc]
  have G2 := Lib.hid hg2
  have G4 := Lib.hid hg4
  have BEL := Lib.hid hbel
  have HW := Lib.hid hW0
  have HSZ := Lib.hid hsz0
  have hzs := u8s_size (l := zeroH) rfl
  have hz1 : (u8s zeroH).toArray.all (·.oneCell') = true := all_one (u8s_one _)
  have ZS := Lib.hid hzs
  have Z1 := Lib.hid hz1
  have hls : (Tryd.prog.info? 25).map (·.size) = some (#[.int .u8 0, .int .u8 0, .int .u8 0, .int .u8 0, .int .u8 0, .int .u8 0, .int .u8 0, .int .u8 0, .int .u8 0, .int .u8 0, .int .u8 0, .int .u8 0, .int .u8 0, .int .u8 0, .int .u8 0, .int .u8 0, .int .u8 0, .int .u8 0, .int .u8 0, .int .u8 0, .int .u8 0, .int .u8 0, .int .u8 0, .int .u8 0, .int .u8 0, .int .u8 0, .int .u8 0, .int .u8 0, .int .u8 0, .int .u8 0, .int .u8 0, .int .u8 0] : Array Value).size := by rw [lit_zero]; exact hzs
  have hlo : (u8s zeroH).toArray.size = (#[.int .u8 0, .int .u8 0, .int .u8 0, .int .u8 0, .int .u8 0, .int .u8 0, .int .u8 0, .int .u8 0, .int .u8 0, .int .u8 0, .int .u8 0, .int .u8 0, .int .u8 0, .int .u8 0, .int .u8 0, .int .u8 0, .int .u8 0, .int .u8 0, .int .u8 0, .int .u8 0, .int .u8 0, .int .u8 0, .int .u8 0, .int .u8 0, .int .u8 0, .int .u8 0, .int .u8 0, .int .u8 0, .int .u8 0, .int .u8 0, .int .u8 0, .int .u8 0] : Array Value).size := by rw [lit_zero]
  have hl1 : (#[.int .u8 0, .int .u8 0, .int .u8 0, .int .u8 0, .int .u8 0, .int .u8 0, .int .u8 0, .int .u8 0, .int .u8 0, .int .u8 0, .int .u8 0, .int .u8 0, .int .u8 0, .int .u8 0, .int .u8 0, .int .u8 0, .int .u8 0, .int .u8 0, .int .u8 0, .int .u8 0, .int .u8 0, .int .u8 0, .int .u8 0, .int .u8 0, .int .u8 0, .int .u8 0, .int .u8 0, .int .u8 0, .int .u8 0, .int .u8 0, .int .u8 0, .int .u8 0] : Array Value).all (·.oneCell') = true := by rw [lit_zero]; exact hz1
  have LS := Lib.hid hls
  have LO := Lib.hid hlo
  have L1 := Lib.hid hl1
  clear hg2 hg4 hbel hW0 hsz0 hzs hz1 hls hlo hl1
  by_cases hl : ns.length = 64
  case neg =>
    have hne : ((ns.length : Int) != 64) = true := by rw [bne_iff_ne]; omega
    have HL := Lib.hid hl
    clear hl
    go_enter Tryd.func37, Tryd.ntmps37
    go_wp2_with (rw [← HW.out]; refine wpList_store_row rfl 25 (.tmp 2) (.tmp 11) rfl w.heap.size #[.int .u8 0, .int .u8 0, .int .u8 0, .int .u8 0, .int .u8 0, .int .u8 0, .int .u8 0, .int .u8 0, .int .u8 0, .int .u8 0, .int .u8 0, .int .u8 0, .int .u8 0, .int .u8 0, .int .u8 0, .int .u8 0, .int .u8 0, .int .u8 0, .int .u8 0, .int .u8 0, .int .u8 0, .int .u8 0, .int .u8 0, .int .u8 0, .int .u8 0, .int .u8 0, .int .u8 0, .int .u8 0, .int .u8 0, .int .u8 0, .int .u8 0, .int .u8 0] (by rfl) (by rfl) 25 _ G2.out LS.out LO.out L1.out ?_)
    refine bodyPost_ret (v := .tuple #[.agg #[.int .u8 0, .int .u8 0, .int .u8 0, .int .u8 0, .int .u8 0, .int .u8 0, .int .u8 0, .int .u8 0, .int .u8 0, .int .u8 0, .int .u8 0, .int .u8 0, .int .u8 0, .int .u8 0, .int .u8 0, .int .u8 0, .int .u8 0, .int .u8 0, .int .u8 0, .int .u8 0, .int .u8 0, .int .u8 0, .int .u8 0, .int .u8 0, .int .u8 0, .int .u8 0, .int .u8 0, .int .u8 0, .int .u8 0, .int .u8 0, .int .u8 0, .int .u8 0], .int .i64 10]) (results_row_tmp rfl _ _ w.heap.size 25 _ (0, 0) _ (by rfl) (setRow_same W0 w.heap.size #[.int .u8 0, .int .u8 0, .int .u8 0, .int .u8 0, .int .u8 0, .int .u8 0, .int .u8 0, .int .u8 0, .int .u8 0, .int .u8 0, .int .u8 0, .int .u8 0, .int .u8 0, .int .u8 0, .int .u8 0, .int .u8 0, .int .u8 0, .int .u8 0, .int .u8 0, .int .u8 0, .int .u8 0, .int .u8 0, .int .u8 0, .int .u8 0, .int .u8 0, .int .u8 0, .int .u8 0, .int .u8 0, .int .u8 0, .int .u8 0, .int .u8 0, .int .u8 0] _ 25 (0, 0) G2.out) _ (by rfl) Tryd.underlying25 rfl LS.out) rfl ?_
    refine ⟨?_, .inr ⟨by rw [hashV, ← lit_zero], fun h => absurd h HL.out⟩⟩
    exact ((((Chg.refl (fun i => w.heap.size ≤ i) w).then (Chg.of_below BEL.out (fun _ => False)) (fun _ h => h.elim))).setRow w.heap.size (.inl (Nat.le_refl _)) _).below (Nat.le_refl _) (fun _ h => h)
  case pos =>
    have hne : ((ns.length : Int) != 64) = false := by rw [bne_eq_false_iff_eq]; omega
    go_enter Tryd.func37, Tryd.ntmps37
    go_wp2_with fail
    rw [← HW.out]
    go_loopw [12] (fun i wr => ∃ k : Nat, k ≤ 32 ∧ i = .int .i64 k ∧ (∀ j, j < 2 * k → 0 ≤ halfI (ns.getD j 0)) ∧ wr.heap[w.heap.size]? = some (.cells (u8s zeroH).toArray 25 (0, 0)) ∧ wr.heap[w.heap.size + 1]? = some (.cells (u8s (decP ns k)).toArray 25 (0, 0)) ∧ Below w.heap.size w wr) (fun i _ => 32 - (intOf i).toNat)
    case atStart => exact ⟨0, by omega, rfl, fun j hj => by omega, G2.out, G4.out, BEL.out⟩
    case round =>
      clear G2 G4 BEL HW HSZ
      obtain ⟨k, hk, rfl, hhal, hg2, hg4, hbel⟩ := hrel
      have G2 := Lib.hid hg2
      have G4 := Lib.hid hg4
      have BEL := Lib.hid hbel
      have HHAL := Lib.hid hhal
      have hs2 : w.heap.size + 1 < wr.heap.size := (Array.getElem?_eq_some_iff.1 hg4).1
      clear hg2 hg4 hbel hhal
      by_cases hk32 : (k : Int) < 32
      · have i0 := HX.out (2 * k) (by omega)
        have i1 := HX.out (2 * k + 1) (by omega)
        simp only [Int.natCast_mul, Int.natCast_add, Int.cast_ofNat_Int] at i0 i1
        have hset := decP_set ns k
        have hbx := HB.out (2 * k)
        have hby := HB.out (2 * k + 1)
        obtain ⟨x, hx⟩ : ∃ x, ns.getD (2 * k) 0 = x := ⟨_, rfl⟩
        obtain ⟨y, hy⟩ : ∃ y, ns.getD (2 * k + 1) 0 = y := ⟨_, rfl⟩
        rw [hx] at i0 hset hbx
        rw [hy] at i1 hset hby
        have HXX := Lib.hid hx
        have HYY := Lib.hid hy
        have SET := Lib.hid hset
        obtain ⟨x0, x1⟩ := hbx
        obtain ⟨y0, y1⟩ := hby
        clear hx hy hset
        have q0 : (0 : Int) ≤ 2 * (k : Int) := by omega
        have q1 : 2 * (k : Int) < 64 := by omega
        have q2 : (0 : Int) ≤ 2 * (k : Int) + 1 := by omega
        have q3 : 2 * (k : Int) + 1 < 64 := by omega
        have z0 : IntKind.i64.wrap (2 * (k : Int)) = 2 * (k : Int) := by rw [IntKind.wrap_i64]; omega
        have z1 : IntKind.i64.wrap (2 * (k : Int) + 1) = 2 * (k : Int) + 1 := by rw [IntKind.wrap_i64]; omega
        go_wp2_with fail
        go_region_with (first
          | (go_at_call 66; refine (half_any _ x x0 x1).mono ?_; rintro e1 w1 ⟨rfl, hb1⟩)
          | (go_at_call 66; refine (half_any _ y y0 y1).mono ?_; rintro e2 w2 ⟨rfl, hb2⟩))
        all_goals
          have b1 : Below wr.heap.size wr w1 := ⟨hb1.os, hb1.tape, hb1.output, hb1.size, hb1.block⟩
          have b2 : Below w1.heap.size w1 w2 := ⟨hb2.os, hb2.tape, hb2.output, hb2.size, hb2.block⟩
          have b12 := below_then b1 b2
          have c12 : Chg (fun i => w.heap.size ≤ i) w w2 := ((Chg.refl _ w).then (Chg.of_below BEL.out (fun _ => False)) (fun _ h => h.elim)).then (Chg.of_below b12 (fun _ => False)) (fun _ h => h.elim)
          have g2 := (b12.block _ (by omega)).trans G2.out
          have g4 := (b12.block _ (by omega)).trans G4.out
          obtain ⟨a, ha⟩ : ∃ a, halfI x = a := ⟨_, rfl⟩
          obtain ⟨b, hb⟩ : ∃ a, halfI y = a := ⟨_, rfl⟩
          have ba := halfI_bd x
          have bb := halfI_bd y
          rw [ha] at ba SET ⊢
          rw [hb] at bb SET ⊢
          have HA := Lib.hid ha
          have HBB := Lib.hid hb
          have C12 := Lib.hid c12
          have G2' := Lib.hid g2
          have G4' := Lib.hid g4
          obtain ⟨ba0, ba1⟩ := ba
          obtain ⟨bb0, bb1⟩ := bb
          have hsw : w.heap.size + 1 < w2.heap.size := (Array.getElem?_eq_some_iff.1 g4).1
          clear hb1 hb2 b1 b2 b12 c12 g2 g4 ha hb i0 i1 z0 z1 G2 G4 BEL
          by_cases hneg : a < 0 ∨ b < 0
          · have hbad : ∃ i, i < 64 ∧ halfI (ns.getD i 0) < 0 := by
              rcases hneg with h | h
              · exact ⟨2 * k, by omega, by rw [HXX.out, HA.out]; exact h⟩
              · exact ⟨2 * k + 1, by omega, by rw [HYY.out, HBB.out]; exact h⟩
            have BAD := Lib.hid hbad
            clear hbad
            by_cases hneg2 : a < 0
            case' neg => have hneg3 : b < 0 := by omega
            all_goals
              clear hneg
              go_wp2_with (refine wpList_store_row rfl 25 (.tmp 2) (.tmp 32) rfl w.heap.size #[.int .u8 0, .int .u8 0, .int .u8 0, .int .u8 0, .int .u8 0, .int .u8 0, .int .u8 0, .int .u8 0, .int .u8 0, .int .u8 0, .int .u8 0, .int .u8 0, .int .u8 0, .int .u8 0, .int .u8 0, .int .u8 0, .int .u8 0, .int .u8 0, .int .u8 0, .int .u8 0, .int .u8 0, .int .u8 0, .int .u8 0, .int .u8 0, .int .u8 0, .int .u8 0, .int .u8 0, .int .u8 0, .int .u8 0, .int .u8 0, .int .u8 0, .int .u8 0] (by rfl) (by rfl) 25 _ G2'.out LS.out LO.out L1.out ?_)
              refine bodyPost_ret (v := .tuple #[.agg #[.int .u8 0, .int .u8 0, .int .u8 0, .int .u8 0, .int .u8 0, .int .u8 0, .int .u8 0, .int .u8 0, .int .u8 0, .int .u8 0, .int .u8 0, .int .u8 0, .int .u8 0, .int .u8 0, .int .u8 0, .int .u8 0, .int .u8 0, .int .u8 0, .int .u8 0, .int .u8 0, .int .u8 0, .int .u8 0, .int .u8 0, .int .u8 0, .int .u8 0, .int .u8 0, .int .u8 0, .int .u8 0, .int .u8 0, .int .u8 0, .int .u8 0, .int .u8 0], .int .i64 10]) (results_row_tmp rfl _ _ w.heap.size 25 _ (0, 0) _ (by rfl) (setRow_same w2 w.heap.size #[.int .u8 0, .int .u8 0, .int .u8 0, .int .u8 0, .int .u8 0, .int .u8 0, .int .u8 0, .int .u8 0, .int .u8 0, .int .u8 0, .int .u8 0, .int .u8 0, .int .u8 0, .int .u8 0, .int .u8 0, .int .u8 0, .int .u8 0, .int .u8 0, .int .u8 0, .int .u8 0, .int .u8 0, .int .u8 0, .int .u8 0, .int .u8 0, .int .u8 0, .int .u8 0, .int .u8 0, .int .u8 0, .int .u8 0, .int .u8 0, .int .u8 0, .int .u8 0] _ 25 (0, 0) G2'.out) _ (by rfl) Tryd.underlying25 rfl LS.out) rfl ?_
              exact ⟨(C12.out.setRow w.heap.size (.inl (Nat.le_refl _)) _).below (Nat.le_refl _) (fun _ h => h), .inr ⟨by rw [hashV, ← lit_zero], fun _ => BAD.out⟩⟩
          · have hna : 0 ≤ a := by omega
            have hnb : 0 ≤ b := by omega
            have hor := or_shift a b hna ba1 hnb bb1
            have hc4 : w2.cell? ⟨w.heap.size + 1, k, none⟩ = some (.int .u8 0) := by
              rw [cell_of_row _ _ _ _ _ _ G4'.out]
              have := u8s_at (l := decP ns k) (j := k) (by rw [decP_len]; omega)
              rw [show (decP ns k).getD k 0 = 0 by simp [decP, List.getD_eq_getElem?_getD, show k < 32 by omega]] at this
              simpa using this
            have hf4 : w2.frozen? ⟨w.heap.size + 1, k, none⟩ = false := frozen_of_row w2 _ k _ _ G4'.out
            clear hneg
            go_wp2
            go_roundw
            case rel =>
              refine ⟨k + 1, by omega, by go_num, fun j hj => ?_, ?_, ?_, ?_⟩
              · by_cases h1 : j < 2 * k
                · exact HHAL.out j h1
                · by_cases h2 : j = 2 * k
                  · rw [h2, HXX.out, HA.out]; exact hna
                  · rw [show j = 2 * k + 1 by omega, HYY.out, HBB.out]; exact hnb
              · rw [Below.heap_setCell _ _ _ _ (by show w.heap.size ≠ w.heap.size + 1; omega)]; exact G2'.out
              · rw [heap_setCell_same _ _ _ _ _ _ G4'.out, ← SET.out, ← u8s_set]
                simp
              · exact (C12.out.setCell ⟨w.heap.size + 1, k, none⟩ (.inl (by show w.heap.size ≤ w.heap.size + 1; omega)) _).below (Nat.le_refl _) (fun _ h => h)
            case measure => simp [intOf]; omega
      · obtain rfl : k = 32 := by omega
        rw [decP_all] at G4
        have HLT : Hid (∀ i, i < 64 → 0 ≤ halfI (ns.getD i 0)) := Lib.hid (fun i hi => HHAL.out i (by omega))
        have hds := u8s_size (decI_len ns)
        obtain ⟨dc, hdc⟩ : ∃ d, (u8s (decI ns)).toArray = d := ⟨_, rfl⟩
        have hd1 : dc.all (·.oneCell') = true := by rw [← hdc]; exact all_one (u8s_one _)
        have hdo : (u8s zeroH).toArray.size = dc.size := by rw [← hdc]; simp [u8s, zeroH, decI_len]
        rw [hdc] at hds G4
        have DS := Lib.hid hds
        have D1 := Lib.hid hd1
        have DO := Lib.hid hdo
        have DC := Lib.hid hdc
        clear hds hd1 hdo hdc
        go_wp2_with (first
          | refine wpList_load_row rfl 25 (.tmp 4) rfl (w.heap.size + 1) (by rfl) 25 dc (0, 0) _ G4.out Tryd.underlying25 rfl DS.out ?_
          | refine wpList_store_row rfl 25 (.tmp 2) (.tmp 41) rfl w.heap.size dc (by rfl) (by rfl) 25 _ G2.out DS.out DO.out D1.out ?_)
        refine bodyPost_ret (v := .tuple #[.agg dc, .int .i64 0]) (results_row_tmp rfl _ _ w.heap.size 25 _ (0, 0) _ (by rfl) (setRow_same wr w.heap.size dc _ 25 (0, 0) G2.out) _ (by rfl) Tryd.underlying25 rfl DS.out) rfl ?_
        refine ⟨?_, .inl ⟨by rw [hashV, DC.out], hl, HLT.out⟩⟩
        exact ((((Chg.refl (fun i => w.heap.size ≤ i) w).then (Chg.of_below BEL.out (fun _ => False)) (fun _ h => h.elim))).setRow w.heap.size (.inl (Nat.le_refl _)) _).below (Nat.le_refl _) (fun _ h => h)
end Go.Proofs.YtaahffminoekfaaDoor
