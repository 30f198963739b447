/-
  The bits' places, as numbers; lamport.Sign, walked.
-/
import Derived.Test.YtaahffminoekfaaDoorZ2
namespace Go.Proofs.YtaahffminoekfaaDoor
open Go.RowKit Go.Shelf
attribute [local go_sem] Oper.semAt_some
def encN (h : List Int) (k : Nat) : Array Value := #[.int .i64 ((k % 256 : Nat) : Int), .int .i64 (bitI h (k % 256))]
theorem range_pre (n m : Nat) (hn : n ≤ m) : List.range n <+: List.range m := by
  obtain ⟨d, rfl⟩ := Nat.exists_eq_add_of_le hn
  exact ⟨(List.range d).map fun k => n + k, by simp [List.range_add]⟩
set_option maxRecDepth 100000 in
set_option maxHeartbeats 2000000 in
theorem each1n_in (F : Fence) (n : Nat) (hF : F.fn 86) (hro : F.round = none) (hn : 1 ≤ n) (l Bn : Nat) (h : List Int) (J Jx : List Nat → World → Prop)
    (hl : h.length = 32) (hb : ∀ j, 0 ≤ h.getD j 0 ∧ h.getD j 0 ≤ 255)
    (hY : ∀ pre x W, J pre W → pre.length < 256 → YieldAt F (n - 1) Tryd.prog l (encN h x) W fun e W' =>
      (e = .returned (.bool true) ∧ J (pre ++ [x]) W' ∧ KeepC Bn W W') ∨ (e = .returned (.bool false) ∧ Jx (pre ++ [x]) W'))
    (W : World) (hBn : ∀ j, j < 32 → W.cell? ⟨Bn, j, none⟩ = some (.int .u8 (h.getD j 0))) (h0 : J [] W) :
    CallsIn F n Tryd.prog 86 #[.func (.yield l) #[] #[], .pointer (some ⟨Bn, 0, none⟩)] W fun e W' => (∃ v, e = .returned v) ∧
      ((∃ ys, ys = List.range 256 ∧ J ys W') ∨ (∃ pre, pre <+: List.range 256 ∧ Jx pre W')) := by
  refine callsIn_of_wp Tryd.func86 rfl hF ?_ hro
  simp only [Tryd.ntmps86, List.size_toArray, List.length_cons, List.length_nil, Nat.reduceAdd, Nat.reduceSub, Array.replicate_succ, Array.replicate_zero, List.push_toArray, List.append_toArray, List.nil_append, List.cons_append]
  gi_wp2
  gi_loopw [4] (fun i wr => ∃ k : Nat, k ≤ 256 ∧ i = .int .i64 k ∧ J (List.range k) wr ∧ (∀ j, j < 32 → wr.cell? ⟨Bn, j, none⟩ = some (.int .u8 (h.getD j 0)))) (fun i wr => 256 - (intOf i).toNat)
  case atStart => exact ⟨0, by omega, rfl, h0, hBn⟩
  case round =>
    obtain ⟨k, hk, rfl, hJ, hc⟩ := hrel
    by_cases hk2 : (k : Int) < 256
    · obtain ⟨fn, tmps, assign, body, hy, hR⟩ := hY (List.range k) k wr hJ (by rw [List.length_range]; omega)
      unfold encN at hy
      rw [Nat.mod_eq_of_lt (show k < 256 by omega)] at hy
      have hk8 : (k : Int) / 8 < 32 := by omega
      have hk0 : (0 : Int) ≤ (k : Int) / 8 := by omega
      have c0 := hc (k / 8) (by omega)
      obtain ⟨x, hx⟩ : ∃ x, h.getD (k / 8) 0 = x := ⟨_, rfl⟩
      rw [hx] at c0
      have hxb : 0 ≤ x ∧ x ≤ 255 := hx ▸ hb (k / 8)
      have HX := Lib.hid hx
      have HC := Lib.hid hc
      have HBN := Lib.hid hBn
      clear hx hc hBn
      have hm : k % 8 = 0 ∨ k % 8 = 1 ∨ k % 8 = 2 ∨ k % 8 = 3 ∨ k % 8 = 4 ∨ k % 8 = 5 ∨ k % 8 = 6 ∨ k % 8 = 7 := by omega
      have step : ∀ (m : Nat) (p : Int), k % 8 = m → ((2 ^ (7 - m) : Nat) : Int) = p → 0 < p → bitI h k = x / p % 2 ∧ bits .and .u8 (x / p) 1 = x / p % 2 ∧ wrap64 (x / p % 2) = x / p % 2 ∧ (k : Int) % 8 = m := fun m p h1 h2 hp => by
        have hd : x / p ≤ x := Int.ediv_le_self p hxb.1
        have hd0 : 0 ≤ x / p := Int.ediv_nonneg hxb.1 (by omega)
        refine ⟨by unfold bitI; rw [HX.out, h1, h2], u8_and1 _ hd0 (by omega), by unfold wrap64; omega, by omega⟩
      have ST := Lib.hid step
      clear step
      rcases hm with hm | hm | hm | hm | hm | hm | hm | hm
      · obtain ⟨e1, e2, e3, e4⟩ := ST.out 0 128 hm (by decide) (by decide)
        clear ST hm hY
        rw [e1] at hy
        have E1 := Lib.hid e1
        simp only [Int.cast_ofNat_Int, Int.natCast_zero] at e4
        clear e1
        gi_wp2
        refine hR.mono ?_
        rintro e W3 (⟨rfl, hJ3, hk3⟩ | ⟨rfl, hJx3⟩)
        · gi_wp2
          go_roundw
          case rel => exact ⟨k + 1, by omega, by go_num, by rw [List.range_succ]; exact hJ3, fun j hj => (hk3 j).trans (HC.out j hj)⟩
          case measure => simp [intOf]; omega
        · gi_wp2
          refine bodyPost_ret (results_none rfl _ _ _) rfl ?_
          exact ⟨⟨_, rfl⟩, .inr ⟨List.range k ++ [k], by rw [← List.range_succ]; exact range_pre _ _ (by omega), hJx3⟩⟩
      · obtain ⟨e1, e2, e3, e4⟩ := ST.out 1 64 hm (by decide) (by decide)
        clear ST hm hY
        rw [e1] at hy
        have E1 := Lib.hid e1
        simp only [Int.cast_ofNat_Int] at e4
        clear e1
        gi_wp2
        refine hR.mono ?_
        rintro e W3 (⟨rfl, hJ3, hk3⟩ | ⟨rfl, hJx3⟩)
        · gi_wp2
          go_roundw
          case rel => exact ⟨k + 1, by omega, by go_num, by rw [List.range_succ]; exact hJ3, fun j hj => (hk3 j).trans (HC.out j hj)⟩
          case measure => simp [intOf]; omega
        · gi_wp2
          refine bodyPost_ret (results_none rfl _ _ _) rfl ?_
          exact ⟨⟨_, rfl⟩, .inr ⟨List.range k ++ [k], by rw [← List.range_succ]; exact range_pre _ _ (by omega), hJx3⟩⟩
      · obtain ⟨e1, e2, e3, e4⟩ := ST.out 2 32 hm (by decide) (by decide)
        clear ST hm hY
        rw [e1] at hy
        have E1 := Lib.hid e1
        simp only [Int.cast_ofNat_Int] at e4
        clear e1
        gi_wp2
        refine hR.mono ?_
        rintro e W3 (⟨rfl, hJ3, hk3⟩ | ⟨rfl, hJx3⟩)
        · gi_wp2
          go_roundw
          case rel => exact ⟨k + 1, by omega, by go_num, by rw [List.range_succ]; exact hJ3, fun j hj => (hk3 j).trans (HC.out j hj)⟩
          case measure => simp [intOf]; omega
        · gi_wp2
          refine bodyPost_ret (results_none rfl _ _ _) rfl ?_
          exact ⟨⟨_, rfl⟩, .inr ⟨List.range k ++ [k], by rw [← List.range_succ]; exact range_pre _ _ (by omega), hJx3⟩⟩
      · obtain ⟨e1, e2, e3, e4⟩ := ST.out 3 16 hm (by decide) (by decide)
        clear ST hm hY
        rw [e1] at hy
        have E1 := Lib.hid e1
        simp only [Int.cast_ofNat_Int] at e4
        clear e1
        gi_wp2
        refine hR.mono ?_
        rintro e W3 (⟨rfl, hJ3, hk3⟩ | ⟨rfl, hJx3⟩)
        · gi_wp2
          go_roundw
          case rel => exact ⟨k + 1, by omega, by go_num, by rw [List.range_succ]; exact hJ3, fun j hj => (hk3 j).trans (HC.out j hj)⟩
          case measure => simp [intOf]; omega
        · gi_wp2
          refine bodyPost_ret (results_none rfl _ _ _) rfl ?_
          exact ⟨⟨_, rfl⟩, .inr ⟨List.range k ++ [k], by rw [← List.range_succ]; exact range_pre _ _ (by omega), hJx3⟩⟩
      · obtain ⟨e1, e2, e3, e4⟩ := ST.out 4 8 hm (by decide) (by decide)
        clear ST hm hY
        rw [e1] at hy
        have E1 := Lib.hid e1
        simp only [Int.cast_ofNat_Int] at e4
        clear e1
        gi_wp2
        refine hR.mono ?_
        rintro e W3 (⟨rfl, hJ3, hk3⟩ | ⟨rfl, hJx3⟩)
        · gi_wp2
          go_roundw
          case rel => exact ⟨k + 1, by omega, by go_num, by rw [List.range_succ]; exact hJ3, fun j hj => (hk3 j).trans (HC.out j hj)⟩
          case measure => simp [intOf]; omega
        · gi_wp2
          refine bodyPost_ret (results_none rfl _ _ _) rfl ?_
          exact ⟨⟨_, rfl⟩, .inr ⟨List.range k ++ [k], by rw [← List.range_succ]; exact range_pre _ _ (by omega), hJx3⟩⟩
      · obtain ⟨e1, e2, e3, e4⟩ := ST.out 5 4 hm (by decide) (by decide)
        clear ST hm hY
        rw [e1] at hy
        have E1 := Lib.hid e1
        simp only [Int.cast_ofNat_Int] at e4
        clear e1
        gi_wp2
        refine hR.mono ?_
        rintro e W3 (⟨rfl, hJ3, hk3⟩ | ⟨rfl, hJx3⟩)
        · gi_wp2
          go_roundw
          case rel => exact ⟨k + 1, by omega, by go_num, by rw [List.range_succ]; exact hJ3, fun j hj => (hk3 j).trans (HC.out j hj)⟩
          case measure => simp [intOf]; omega
        · gi_wp2
          refine bodyPost_ret (results_none rfl _ _ _) rfl ?_
          exact ⟨⟨_, rfl⟩, .inr ⟨List.range k ++ [k], by rw [← List.range_succ]; exact range_pre _ _ (by omega), hJx3⟩⟩
      · obtain ⟨e1, e2, e3, e4⟩ := ST.out 6 2 hm (by decide) (by decide)
        clear ST hm hY
        rw [e1] at hy
        have E1 := Lib.hid e1
        simp only [Int.cast_ofNat_Int] at e4
        clear e1
        gi_wp2
        refine hR.mono ?_
        rintro e W3 (⟨rfl, hJ3, hk3⟩ | ⟨rfl, hJx3⟩)
        · gi_wp2
          go_roundw
          case rel => exact ⟨k + 1, by omega, by go_num, by rw [List.range_succ]; exact hJ3, fun j hj => (hk3 j).trans (HC.out j hj)⟩
          case measure => simp [intOf]; omega
        · gi_wp2
          refine bodyPost_ret (results_none rfl _ _ _) rfl ?_
          exact ⟨⟨_, rfl⟩, .inr ⟨List.range k ++ [k], by rw [← List.range_succ]; exact range_pre _ _ (by omega), hJx3⟩⟩
      · obtain ⟨e1, e2, e3, e4⟩ := ST.out 7 1 hm (by decide) (by decide)
        clear ST hm hY
        rw [e1] at hy
        have E1 := Lib.hid e1
        simp only [Int.cast_ofNat_Int] at e4
        simp only [Int.ediv_one] at e1 e2 e3 hy
        clear e1
        gi_wp2
        refine hR.mono ?_
        rintro e W3 (⟨rfl, hJ3, hk3⟩ | ⟨rfl, hJx3⟩)
        · gi_wp2
          go_roundw
          case rel => exact ⟨k + 1, by omega, by go_num, by rw [List.range_succ]; exact hJ3, fun j hj => (hk3 j).trans (HC.out j hj)⟩
          case measure => simp [intOf]; omega
        · gi_wp2
          refine bodyPost_ret (results_none rfl _ _ _) rfl ?_
          exact ⟨⟨_, rfl⟩, .inr ⟨List.range k ++ [k], by rw [← List.range_succ]; exact range_pre _ _ (by omega), hJx3⟩⟩
    · obtain rfl : k = 256 := by omega
      clear hY hBn hc
      gi_wp2
      go_end0
      first | exact ⟨⟨_, rfl⟩, .inl ⟨_, rfl, hJ⟩⟩ | exact ⟨⟨_, rfl⟩, .inl hJ⟩ | exact hJ
theorem eachn_stops (F : Fence) (n : Nat) (hF : F.fn 86) (hro : F.round = none) (hn : 1 ≤ n) (Bn : Nat) (h : List Int) (w : World) (hlt : Bn < w.heap.size) (hl : h.length = 32) (hb : ∀ j, 0 ≤ h.getD j 0 ∧ h.getD j 0 ≤ 255)
    (hc : ∀ j, j < 32 → w.cell? ⟨Bn, j, none⟩ = some (.int .u8 (h.getD j 0))) :
    SeqStopsK F n Tryd.prog 86 #[.pointer (some ⟨Bn, 0, none⟩)] (encN h) (KeepC Bn) (fun ys => ys = List.range 256) (fun pre => pre <+: List.range 256) 256 w := fun l J Jx W hW _ _ hY h0 =>
  each1n_in F n hF hro hn l Bn h J Jx hl hb hY W (fun j hj => (hW.cell (p := ⟨Bn, j, none⟩) hlt).trans (hc j hj)) h0
theorem keeps_chg {S : Nat → Prop} {W W' : World} (B : Nat) (h : Chg S W W') (hS : ∀ k o, S k → W.heap[k]? = some o → o.isCells = true) : KeepsFrom B W W' :=
  ⟨h.size, fun k o _ hk ho => (h.block k (Array.getElem?_eq_some_iff.1 hk).1 (fun hs => by rw [hS k o hs hk] at ho; cases ho)).trans hk⟩
/-- What holds between two rounds: a row of hashes of the call's own, in a box. -/
structure HSt (W1 : World) (B : Nat) (g : Nat → List (List Int)) (pre : List Nat) (W : World) : Prop where
  chg : Chg (fun i => i = B) W1 W
  box : ∃ v, Boxed W B 49 v ∧ W.ownsRow W1.heap.size 25 32 v (2 * pre.length) (u8s (pre.flatMap g).flatten)
theorem hst_own (W1 : World) (B : Nat) (g : Nat → List (List Int)) (C : Nat) (hC : W1.heap.size ≤ C) : OwnFrom C (HSt W1 B g) := by
  intro s W W' row hs hg hr
  obtain ⟨v, hv, hown⟩ := hs.box
  obtain ⟨v', hv', hown', _⟩ := (Own.from (holdsRow_own W1.heap.size B 49 25 32 (fun pre : List Nat => 2 * pre.length) (fun pre => u8s (pre.flatMap g).flatten) (fun _ _ => True)) C) s W W' row ⟨v, hv, hown, trivial⟩ hg hr
  exact ⟨hs.chg.then (Chg.of_grownBy hg) (fun i hi => .inr (Nat.le_trans hC (hr i hi.symm).1)), v', hv', hown'⟩
theorem range_flat (f g : Nat → List Int) (n : Nat) (hn : n ≤ 256) : (List.range n).flatMap (fun k => [f (k % 256), g (k % 256)]) = pairs f g n := by
  induction n with
  | zero => rfl
  | succ n ih => rw [List.range_succ, List.flatMap_append, ih (by omega), pairs_succ]; simp [Nat.mod_eq_of_lt (show n < 256 by omega)]
theorem own_base {W : World} {base base' n s : Nat} {e : TypeId} {v : Value} {xs : List Value} (h : W.ownsRow base e s v n xs) (hb : base' ≤ base) : W.ownsRow base' e s v n xs := by
  refine ⟨h.1, ?_⟩
  rcases h.2 with hn | ⟨g, cap, cur, rfl, hb1, hrest⟩
  · exact .inl hn
  · exact .inr ⟨g, cap, cur, rfl, by omega, hrest⟩
theorem own_cells {W : World} {base n s : Nat} {e : TypeId} {v : Value} {xs : List Value} (h : W.ownsRow base e s v n xs) {k : Nat} {o : Obj} (hk : v.ownBlock = some k) (ho : W.heap[k]? = some o) : o.isCells = true := by
  rcases h.2 with ⟨rfl, _⟩ | ⟨g, cap, cur, rfl, _, hgb, _⟩
  · simp [Value.ownBlock] at hk
  · obtain rfl : g = k := by simpa [Value.ownBlock] using hk
    rw [hgb] at ho; cases ho; rfl
/-- What Sign of layer 5 answers. -/
def LSgnPost (h : List Int) (a : Int) (m : List Int) (w : World) (e : Ending) (w' : World) : Prop :=
  Below w.heap.size w w' ∧ ((inRange a ∧ ∃ B c, e = .returned (.tuple #[.slice B 512 c, .int .i64 0]) ∧ w'.ownsRow w.heap.size 25 32 (.slice B 512 c) 512 (u8s (sgnL h a m 256).flatten)) ∨ (¬ inRange a ∧ e = .returned (.tuple #[.slice none 0 0, .int .i64 11])))
set_option maxRecDepth 100000 in
set_option maxHeartbeats 4000000 in
theorem lsign_any (h : List Int) (a : Int) (m : List Int) (w : World) (hl : h.length = 32) (hb : Bytes h) (ha : I64 a) (hlm : m.length = 32) (hbm : Bytes m) (hla : Laid w) :
    Calls Tryd.prog 50 #[hashV h, .int .i64 a, hashV m] w (LSgnPost h a m w) := by
  refine (callsIn_wide (n := 5)).1 ?_
  have hl2 := hla.lt
  obtain ⟨cx, hcx, hux, _, _, hsz, _⟩ := hash_parts h hl
  obtain ⟨cm, hcm, hum, _, _, hszm, _⟩ := hash_parts m hlm
  have hmx : ∀ j, j < 32 → cm[j]? = some (.int .u8 (m.getD j 0)) := fun j hj => hash_at m cm hum hlm j hj
  rw [hcx, hcm]
  obtain ⟨W0, hW0⟩ : ∃ W0, W0 = ((w.alloc (.cells cx 25)).alloc (.cells #[.int .i64 a] 3)).alloc (.cells cm 25) := ⟨_, rfl⟩
  have hm0 : W0.heap[w.heap.size + 1 + 1]? = some (.cells cm 25 (0, 0)) := by
    rw [hW0]; have := heap_alloc_last ((w.alloc (.cells cx 25)).alloc (.cells #[.int .i64 a] 3)) (.cells cm 25); rwa [World.size_alloc, World.size_alloc] at this
  have hk0 : W0.heap[w.heap.size + 1]? = some (.cells #[.int .i64 a] 3 (0, 0)) := by
    rw [hW0]; exact (Below.heap_alloc _ _ _ (by simp)).trans (by have := heap_alloc_last (w.alloc (.cells cx 25)) (.cells #[.int .i64 a] 3); rwa [World.size_alloc] at this)
  have hx0 : W0.heap[w.heap.size]? = some (.cells cx 25 (0, 0)) := by rw [hW0]; exact (Below.heap_alloc _ _ _ (by simp; omega)).trans ((Below.heap_alloc _ _ _ (by simp)).trans (heap_alloc_last _ _))
  have hu0 : Up w W0 := by rw [hW0]; exact (((Chg.refl _ w).alloc _).alloc _).alloc _
  have hsz0 : W0.heap.size = w.heap.size + 1 + 1 + 1 := by rw [hW0]; simp
  have hkc0 : W0.cell? ⟨w.heap.size + 1, 0, none⟩ = some (.int .i64 a) := cell_of_row W0 _ 0 _ _ _ hk0
  have HX0 := Lib.hid hx0
  have HM0 := Lib.hid hm0
  have HK0 := Lib.hid hk0
  have HU0 := Lib.hid hu0
  have HZ0 := Lib.hid hsz0
  have HCX := Lib.hid hcx
  have HMX := Lib.hid hmx
  have HSX := Lib.hid hsz
  have HSM := Lib.hid hszm
  have HB := Lib.hid hb
  have HL := Lib.hid hl
  have HBM := Lib.hid hbm
  have HLM := Lib.hid hlm
  have HA := Lib.hid ha
  have HLA := Lib.hid hla
  have HRI := Lib.hid (right70_any a W0)
  have ha1 := ha.1
  have ha2 := ha.2
  have HWL := Lib.hid hW0
  have hkc : (((w.alloc (.cells cx 25)).alloc (.cells #[.int .i64 a] 3)).alloc (.cells cm 25)).cell? ⟨w.heap.size + 1, 0, none⟩ = some (.int .i64 a) := by rw [← hW0]; exact hkc0
  clear hcx hux hl hb hla hsz hW0 ha hcm hum hszm hlm hbm hx0 hm0 hk0 hu0 hsz0 hkc0 hmx
  refine callsIn_of_wp_marks Tryd.func50 rfl trivial ?_ rfl
  simp only [Tryd.ntmps50, List.size_toArray, List.length_cons, List.length_nil, Nat.reduceAdd, Nat.reduceSub, Array.replicate_succ, Array.replicate_zero, List.push_toArray, List.append_toArray, List.nil_append, List.cons_append]
  by_cases hin : inRange a
  case neg =>
    have hdn : (decide (0 ≤ a) && decide (a ≤ 2147483647)) = false := by rw [Bool.and_eq_false_iff]; unfold inRange at hin; simp; omega
    rw [hdn] at HRI
    have HIN := Lib.hid hin
    clear hin hdn
    gi_wp2_with fail
    rw [← HWL.out]
    refine ⟨trivial, ?_⟩
    refine (callsIn_wide.2 HRI.out).mono ?_
    rintro e W1 ⟨rfl, rfl⟩
    gi_wp2_with fail
    exact ⟨_, results_tmp2 rfl _ _ _, HU0.out.below_none (fun _ _ h => h), .inr ⟨HIN.out, rfl⟩⟩
  case pos =>
    have hdn : (decide (0 ≤ a) && decide (a ≤ 2147483647)) = true := by unfold inRange at hin; simp; omega
    rw [hdn] at HRI
    have HIN := Lib.hid hin
    clear hin hdn
    gi_wp2_with fail
    rw [← HWL.out]
    refine ⟨trivial, ?_⟩
    refine (callsIn_wide.2 HRI.out).mono ?_
    rintro e W0' ⟨rfl, rfl⟩
    rename World => W0
    clear hkc
    gi_wp2_with (refine wpListIn_gives wideF rfl (fun c hc => by cases hc) (Φ := fun v W' => v = .agg cm ∧ W' = _) (gv_load_row rfl rfl (show (W0.alloc (.cells #[.slice none 0 0] 49)).heap[w.heap.size + 1 + 1]? = some (.cells cm 25 (0, 0)) from (Below.heap_alloc _ _ _ (by have := HZ0.out; omega)).trans HM0.out) Tryd.underlying25 rfl HSM.out ⟨rfl, rfl⟩) ?_; rintro v W' ⟨rfl, rfl⟩)
    refine ⟨trivial, ?_⟩
    refine (each_in Fence.wide _ trivial rfl cm _).mono ?_
    rintro e W1 ⟨rfl, hW1⟩
    have hsz : (W0.alloc (.cells #[.slice none 0 0] 49)).heap.size = w.heap.size + 1 + 1 + 1 + 1 := by rw [World.size_alloc, HZ0.out]
    have hz1 : W1.heap.size = w.heap.size + 1 + 1 + 1 + 1 + 1 := by rw [hW1, World.size_alloc, hsz]
    have hu1 : Up W0 W1 := by rw [hW1]; exact ((Chg.refl _ W0).alloc _).alloc _
    have hbx : Boxed W1 (w.heap.size + 1 + 1 + 1) 49 (.slice none 0 0) := by
      rw [hW1, ← HZ0.out]; exact (Boxed.new W0 49 (.slice none 0 0)).alloc _
    have hrow : W1.heap[w.heap.size + 1 + 1 + 1 + 1]? = some (.cells cm 25 (0, 0)) := by rw [hW1, ← hsz]; exact heap_alloc_last _ _
    have hcell : ∀ j, j < 32 → W1.cell? ⟨w.heap.size + 1 + 1 + 1 + 1, j, none⟩ = some (.int .u8 (m.getD j 0)) := fun j hj => (cell_of_row W1 _ j _ _ _ hrow).trans (HMX.out j hj)
    rw [hsz, HZ0.out]
    have HBX := Lib.hid hbx
    have HCELL := Lib.hid hcell
    have HZ := Lib.hid hz1
    have HXR1 := Lib.hid (hu1.heap HX0.out (fun h => h))
    have HKC1 := Lib.hid (cell_of_row W1 (w.heap.size + 1) 0 _ _ _ (hu1.heap HK0.out (fun h => h)))
    have HU1 := Lib.hid (HU0.out.trans hu1)
    have HLA1 := Lib.hid (HLA.out.up (HU0.out.trans hu1))
    clear hsz hz1 hu1 hbx hrow hcell hW1 HX0 HM0 HK0 HU0 HZ0 HRI HWL HLA
    gi_wp2_with fail
    refine wpIn_rangeFunc_ownG (n := 5) (F := Fence.wide) rfl (by omega) (gf := 86) (lb := #[.pointer (some ⟨w.heap.size + 1 + 1 + 1 + 1, 0, none⟩)]) rfl trivial (enters_of Tryd.func86 (by kernel_rfl) rfl)
      (eachn_stops Fence.wide 4 trivial rfl (by omega) (w.heap.size + 1 + 1 + 1 + 1) m W1 (by have := HZ.out; omega) HLM.out HBM.out HCELL.out) KeepC.trans (fun W l o o' hl ho _ _ => KeepC.put (by have := HZ.out; omega) ho) (Below.refl _ _) (fun _ => rfl)
      (HSt W1 (w.heap.size + 1 + 1 + 1) fun k => [secI h a (67 + 2 * ((k % 256 : Nat) : Int) + bitI m (k % 256)), endL h a (k % 256) (1 - bitI m (k % 256))])
      (fun _ _ _ => False) (hst_own _ _ _ _ (Nat.le_refl _)) (fun _ _ _ _ _ hs _ _ => hs) ⟨Chg.refl _ _, _, HBX.out, World.ownsRow_nil _ _ _ _⟩
      (fun x => { tmps := #[.agg cx, .int .i64 a, .agg cm, .pointer (some ⟨w.heap.size, 0, none⟩), .pointer (some ⟨w.heap.size + 1, 0, none⟩), .pointer (some ⟨w.heap.size + 1 + 1, 0, none⟩), .slice none 0 0, .int .i64 0, .pointer (some ⟨w.heap.size + 1 + 1 + 1, 0, none⟩), .int .i64 ((x % 256 : Nat) : Int), .int .i64 (bitI m (x % 256)), .int .i64 a, .bool true, .bool false, .agg cm, .func (.func 86) #[] #[.pointer (some ⟨w.heap.size + 1 + 1 + 1 + 1, 0, none⟩)], .int .i64 ((x % 256 : Nat) : Int), .int .i64 (bitI m (x % 256)), undef, undef, undef, undef, undef, undef, undef, undef, undef, undef, undef, undef, undef, undef, undef, undef, undef, undef, undef], defers := [] }) ?assign ?body ?done ?stop
    case assign =>
      intro l x W K hK
      unfold encN
      gi_wp2
      exact hK
    case body =>
      rintro l pre x W ⟨hch, bv, hv, hown⟩ hlt
      obtain ⟨k, hk⟩ : ∃ k, x % 256 = k := ⟨_, rfl⟩
      have hk2 : k < 256 := by omega
      obtain ⟨b, hb⟩ : ∃ b, bitI m k = b := ⟨_, rfl⟩
      have hbd := bitI_bd m k
      rw [hb] at hbd
      obtain ⟨hbd0, hbd1⟩ := hbd
      dsimp only
      rw [hk, hb]
      have hs0 := secI_len h a (67 + 2 * (k : Int) + b)
      have hs1 := secI_len h a (67 + 2 * (k : Int) + (1 - b))
      have hb1 := secI_bytes h a (67 + 2 * (k : Int) + (1 - b))
      have he1 := endL_ok h a k (1 - b)
      have q1 := endL_eq h a k (1 - b)
      obtain ⟨s0, hs0'⟩ : ∃ x, secI h a (67 + 2 * (k : Int) + b) = x := ⟨_, rfl⟩
      obtain ⟨s1, hs1'⟩ : ∃ x, secI h a (67 + 2 * (k : Int) + (1 - b)) = x := ⟨_, rfl⟩
      obtain ⟨e1, he1'⟩ : ∃ x, endL h a k (1 - b) = x := ⟨_, rfl⟩
      rw [hs0'] at hs0
      rw [hs1'] at hs1 hb1 q1
      rw [he1'] at he1 q1
      have HGX : Hid ([secI h a (67 + 2 * ((x % 256 : Nat) : Int) + bitI m (x % 256)), endL h a (x % 256) (1 - bitI m (x % 256))] = [s0, e1]) := Lib.hid (by rw [hk, hb, hs0', he1'])
      have HS0 := Lib.hid hs0'
      have HS1 := Lib.hid hs1'
      have HE1 := Lib.hid q1
      have HLs0 := Lib.hid hs0
      have HLs1 := Lib.hid hs1
      have HBs1 := Lib.hid hb1
      have HLe1 := Lib.hid he1.1
      have hchd : Chg (fun i => i = w.heap.size + 1 + 1 + 1) W1 W.drew := hch.drew
      have HXR := Lib.hid (hchd.heap HXR1.out (by omega))
      have HKC := Lib.hid (hchd.cell HKC1.out (by simp only; omega))
      have HBC : Hid (W.drew.cell? ⟨w.heap.size + 1 + 1 + 1, 0, none⟩ = some bv) := Lib.hid hv.cell
      have HLAo := Lib.hid (HLA1.out.chg hchd (by omega) (by omega))
      have HO := Lib.hid hown
      have HV := Lib.hid hv
      have HCH := Lib.hid hch
      clear hk hb hs0 hs1 hb1 he1 q1 hs0' hs1' he1' hchd hown hv hch
      gi_wp2_with fail
      refine MT.region_monoIn (wideF.round l) Up [fun v _ => v = bv,
          fun v _ => v = hashV h,
          fun v _ => v = .int .i64 a,
          fun v _ => v = .int .i64 (k : Int),
          fun v _ => v = .int .i64 b,
          fun v _ => v = hashV s0,
          fun v _ => v = hashV h,
          fun v _ => v = .int .i64 a,
          fun v _ => v = .int .i64 (k : Int),
          fun v _ => v = .int .i64 b,
          fun v _ => v = .int .i64 (1 - b),
          fun v _ => v = hashV s1,
          fun v _ => v = .int .i64 (k : Int),
          fun v _ => v = .int .i64 b,
          fun v _ => v = .int .i64 (1 - b),
          fun v _ => v = hashV e1,
          TwoB s0 e1] (by kernel_rfl) (by kernel_rfl) (by kernel_rfl) (Chg.refl _) (fun _ _ _ => Chg.trans) (by simp) ?_ ?_ ?_
      · simp only [List.forall_mem_cons]
        exact ⟨fun _ _ _ _ _ h => h, fun _ _ _ _ _ h => h, fun _ _ _ _ _ h => h, fun _ _ _ _ _ h => h, fun _ _ _ _ _ h => h, fun _ _ _ _ _ h => h, fun _ _ _ _ _ h => h, fun _ _ _ _ _ h => h, fun _ _ _ _ _ h => h, fun _ _ _ _ _ h => h, fun _ _ _ _ _ h => h, fun _ _ _ _ _ h => h, fun _ _ _ _ _ h => h, fun _ _ _ _ _ h => h, fun _ _ _ _ _ h => h, fun _ _ _ _ _ h => h, fun _ _ _ _ hu h => TwoB.up h hu, by simp⟩
      · refine ⟨?_, ?_, ?_, ?_, ?_, ?_, ?_, ?_, ?_, ?_, ?_, ?_, ?_, ?_, ?_, ?_, ?_, trivial⟩
        · intro ρ w1 hw h0 hc hg hf hd
          have s8 : ρ (.tmp 8) = .pointer (some ⟨w.heap.size + 1 + 1 + 1, 0, none⟩) := h0 8 (by kernel_rfl)
          refine ⟨fun _ => ?_, fun h => by cases h⟩
          clear h0 hg hd
          clear hc hf
          have c0 := hw.cell HBC.out (fun h => h)
          refine Gives.value (w' := w1) ?_ ⟨Chg.refl _ _, rfl⟩
          go_simp
        · intro ρ w1 hw h0 hc hg hf hd
          have s3 : ρ (.tmp 3) = .pointer (some ⟨w.heap.size, 0, none⟩) := h0 3 (by kernel_rfl)
          refine ⟨fun _ => ?_, fun h => by cases h⟩
          clear h0 hg hd
          clear hc hf
          rw [HCX.out]
          exact gives_load_row rfl s3 (hw.heap HXR.out (fun h => h)) Tryd.underlying25 rfl HSX.out ⟨Chg.refl _ _, rfl⟩
        · intro ρ w1 hw h0 hc hg hf hd
          have s4 : ρ (.tmp 4) = .pointer (some ⟨w.heap.size + 1, 0, none⟩) := h0 4 (by kernel_rfl)
          refine ⟨fun _ => ?_, fun h => by cases h⟩
          clear h0 hg hd
          clear hc hf
          have c0 := hw.cell HKC.out (fun h => h)
          refine Gives.value (w' := w1) ?_ ⟨Chg.refl _ _, rfl⟩
          go_simp
        · intro ρ w1 hw h0 hc hg hf hd
          have s9 : ρ (.tmp 9) = .int .i64 (k : Int) := h0 9 (by kernel_rfl)
          refine ⟨fun _ => ?_, fun h => by cases h⟩
          clear h0 hg hd
          exact gives_move rfl ⟨Chg.refl _ _, s9⟩
        · intro ρ w1 hw h0 hc hg hf hd
          have s10 : ρ (.tmp 10) = .int .i64 b := h0 10 (by kernel_rfl)
          refine ⟨fun _ => ?_, fun h => by cases h⟩
          clear h0 hg hd
          exact gives_move rfl ⟨Chg.refl _ _, s10⟩
        · intro ρ w1 hw h0 hc hg hf hd
          have d1 := hd ⟨1, .data⟩ (by simp) rfl _ _ _ rfl rfl rfl
          have d2 := hd ⟨2, .data⟩ (by simp) rfl _ _ _ rfl rfl rfl
          have d3 := hd ⟨3, .data⟩ (by simp) rfl _ _ _ rfl rfl rfl
          have d4 := hd ⟨4, .data⟩ (by simp) rfl _ _ _ rfl rfl rfl
          refine ⟨fun _ => ?_, fun h => by cases h⟩
          clear h0 hg hd
          have hcl := lsec_any h a k b w1 HL.out HB.out HA.out (by omega) (by omega) (by omega) (by omega) (HLAo.out.up hw)
          unfold HashPost at hcl
          rw [HS0.out] at hcl
          refine gives_call rfl hf Tryd.func72 rfl (by kernel_rfl) (args := #[hashV h, .int .i64 a, .int .i64 k, .int .i64 b]) (by simp [hc, d1, d2, d3, d4]) (hcl.mono ?_)
          rintro e w2 ⟨rfl, hb⟩
          exact ⟨_, rfl, up_below hb, rfl⟩
        · intro ρ w1 hw h0 hc hg hf hd
          have s3 : ρ (.tmp 3) = .pointer (some ⟨w.heap.size, 0, none⟩) := h0 3 (by kernel_rfl)
          refine ⟨fun _ => ?_, fun h => by cases h⟩
          clear h0 hg hd
          clear hc hf
          rw [HCX.out]
          exact gives_load_row rfl s3 (hw.heap HXR.out (fun h => h)) Tryd.underlying25 rfl HSX.out ⟨Chg.refl _ _, rfl⟩
        · intro ρ w1 hw h0 hc hg hf hd
          have s4 : ρ (.tmp 4) = .pointer (some ⟨w.heap.size + 1, 0, none⟩) := h0 4 (by kernel_rfl)
          refine ⟨fun _ => ?_, fun h => by cases h⟩
          clear h0 hg hd
          clear hc hf
          have c0 := hw.cell HKC.out (fun h => h)
          refine Gives.value (w' := w1) ?_ ⟨Chg.refl _ _, rfl⟩
          go_simp
        · intro ρ w1 hw h0 hc hg hf hd
          have s9 : ρ (.tmp 9) = .int .i64 (k : Int) := h0 9 (by kernel_rfl)
          refine ⟨fun _ => ?_, fun h => by cases h⟩
          clear h0 hg hd
          exact gives_move rfl ⟨Chg.refl _ _, s9⟩
        · intro ρ w1 hw h0 hc hg hf hd
          have s10 : ρ (.tmp 10) = .int .i64 b := h0 10 (by kernel_rfl)
          refine ⟨fun _ => ?_, fun h => by cases h⟩
          clear h0 hg hd
          exact gives_move rfl ⟨Chg.refl _ _, s10⟩
        · intro ρ w1 hw h0 hc hg hf hd
          have d9 := hd ⟨9, .data⟩ (by simp) rfl _ _ _ rfl rfl rfl
          refine ⟨fun _ => ?_, fun h => by cases h⟩
          clear h0 hg hd
          clear hf
          refine Gives.value (w' := w1) ?_ ⟨Chg.refl _ _, rfl⟩
          go_simp
          have hb01 : b = 0 ∨ b = 1 := by omega
          rcases hb01 with h | h <;> rw [h] <;> rfl
        · intro ρ w1 hw h0 hc hg hf hd
          have d6 := hd ⟨6, .data⟩ (by simp) rfl _ _ _ rfl rfl rfl
          have d7 := hd ⟨7, .data⟩ (by simp) rfl _ _ _ rfl rfl rfl
          have d8 := hd ⟨8, .data⟩ (by simp) rfl _ _ _ rfl rfl rfl
          have d10 := hd ⟨10, .data⟩ (by simp) rfl _ _ _ rfl rfl rfl
          refine ⟨fun _ => ?_, fun h => by cases h⟩
          clear h0 hg hd
          have hcl := lsec_any h a k (1 - b) w1 HL.out HB.out HA.out (by omega) (by omega) (by omega) (by omega) (HLAo.out.up hw)
          unfold HashPost at hcl
          rw [HS1.out] at hcl
          refine gives_call rfl hf Tryd.func72 rfl (by kernel_rfl) (args := #[hashV h, .int .i64 a, .int .i64 k, .int .i64 (1 - b)]) (by simp [hc, d6, d7, d8, d10]) (hcl.mono ?_)
          rintro e w2 ⟨rfl, hb⟩
          exact ⟨_, rfl, up_below hb, rfl⟩
        · intro ρ w1 hw h0 hc hg hf hd
          have s9 : ρ (.tmp 9) = .int .i64 (k : Int) := h0 9 (by kernel_rfl)
          refine ⟨fun _ => ?_, fun h => by cases h⟩
          clear h0 hg hd
          exact gives_move rfl ⟨Chg.refl _ _, s9⟩
        · intro ρ w1 hw h0 hc hg hf hd
          have s10 : ρ (.tmp 10) = .int .i64 b := h0 10 (by kernel_rfl)
          refine ⟨fun _ => ?_, fun h => by cases h⟩
          clear h0 hg hd
          exact gives_move rfl ⟨Chg.refl _ _, s10⟩
        · intro ρ w1 hw h0 hc hg hf hd
          have d13 := hd ⟨13, .data⟩ (by simp) rfl _ _ _ rfl rfl rfl
          refine ⟨fun _ => ?_, fun h => by cases h⟩
          clear h0 hg hd
          clear hf
          refine Gives.value (w' := w1) ?_ ⟨Chg.refl _ _, rfl⟩
          go_simp
          have hb01 : b = 0 ∨ b = 1 := by omega
          rcases hb01 with h | h <;> rw [h] <;> rfl
        · intro ρ w1 hw h0 hc hg hf hd
          have d11 := hd ⟨11, .data⟩ (by simp) rfl _ _ _ rfl rfl rfl
          have d12 := hd ⟨12, .data⟩ (by simp) rfl _ _ _ rfl rfl rfl
          have d14 := hd ⟨14, .data⟩ (by simp) rfl _ _ _ rfl rfl rfl
          refine ⟨fun _ => ?_, fun h => by cases h⟩
          clear h0 hg hd
          have hcl := lend_any s1 k (1 - b) w1 HLs1.out HBs1.out (by omega) (by omega) (by omega) (by omega) (HLAo.out.up hw)
          unfold HashPost at hcl
          rw [HE1.out] at hcl
          refine gives_call rfl hf Tryd.func73 rfl (by kernel_rfl) (args := #[hashV s1, .int .i64 k, .int .i64 (1 - b)]) (by simp [hc, d11, d12, d14]) (hcl.mono ?_)
          rintro e w2 ⟨rfl, hb⟩
          exact ⟨_, rfl, up_below hb, rfl⟩
        · intro ρ w1 hw h0 hc hg hf hd
          have d5 := hd ⟨5, .data⟩ (by simp) rfl _ _ _ rfl rfl rfl
          have d15 := hd ⟨15, .data⟩ (by simp) rfl _ _ _ rfl rfl rfl
          refine ⟨fun _ => ?_, fun h => by cases h⟩
          clear h0 hg hd
          clear hc hf
          exact gives_build_two rfl s0 e1 d5 d15 HLs0.out HLe1.out ⟨(Chg.refl _ w1).alloc _, _, rfl, heap_alloc_last _ _⟩
      · intro vs w2 hw hr
        have h0 := hr 0 _ rfl
        have h16 := hr 16 _ rfl
        clear hr
        dsimp only [putsL, restL]
        simp only [Act.put, List.setIfInBounds_toArray, List.set_cons_zero, List.set_cons_succ]
        obtain ⟨g2, e16, hg2⟩ := h16
        rw [h0, e16]
        have hu2 : Up W w2 := (Chg.refl (fun _ => False) W).drew.trans hw
        have hzW := HCH.out.size
        have hz2 := hu2.size
        have hblk : ∀ i, bv.ownBlock = some i → W1.heap.size ≤ i := fun i hi => (HO.out.lt i hi).1
        obtain ⟨A2, c2, w3, hrun, ho2, hc2, _⟩ := push_two w2 W1.heap.size bv (2 * pre.length) _ (own_up HO.out hu2) g2 s0 e1 hg2 HLs0.out HLe1.out (by omega) (by omega)
        have hne : ¬ bv.ownBlock = some (w.heap.size + 1 + 1 + 1) := fun hi => by have := hblk _ hi; have := HZ.out; omega
        have hb3 : Boxed w3 (w.heap.size + 1 + 1 + 1) 49 bv := hc2.heap (hu2.heap (show W.heap[w.heap.size + 1 + 1 + 1]? = _ from HV.out) (fun h => h)) hne
        have hc1 := hb3.cell
        have hf1 := hb3.frozen
        have hall : Chg (fun i => bv.ownBlock = some i ∨ i = w.heap.size + 1 + 1 + 1) W (w3.setCell ⟨w.heap.size + 1 + 1 + 1, 0, none⟩ (.slice A2 (2 * pre.length + 2) c2)) :=
          ((hu2.mono (fun _ _ h => h.elim)).then hc2 (fun i hi => .inl (.inl hi))).setCell ⟨w.heap.size + 1 + 1 + 1, 0, none⟩ (.inl (.inr rfl)) _
        have HALL := Lib.hid hall
        have HRUN := Lib.hid hrun
        have HO2 := Lib.hid ho2
        have HB3 := Lib.hid hb3
        have HBLK := Lib.hid hblk
        have HNE := Lib.hid hne
        clear hw h0 e16 hg2 hu2 hrun ho2 hc2 hb3 hall hblk hne
        gi_wp2_with (refine wpListIn_gives (wideF.round l) rfl (fun c hc => by cases hc) (Φ := fun v W' => v = .slice A2 (2 * pre.length + 2) c2 ∧ W' = w3) (gv_app rfl rfl rfl rfl HRUN.out ⟨rfl, rfl⟩) ?_; rintro v W' ⟨rfl, rfl⟩)
        refine ⟨keeps_chg _ HALL.out (fun i o hi ho => ?_), keepC_cells HALL.out (by have := HZ.out; omega) (fun hi => ?_), ⟨HCH.out.then HALL.out (fun i hi => ?_), _, HB3.out.set _, ?_⟩⟩
        · rcases hi with hi | rfl
          · exact own_cells HO.out hi ho
          · rw [show W.heap[w.heap.size + 1 + 1 + 1]? = _ from HV.out] at ho; cases ho; rfl
        · rcases hi with hi | hi
          · have := HBLK.out _ hi; have := HZ.out; omega
          · omega
        · rcases hi with hi | hi
          · exact .inr (HBLK.out i hi)
          · exact .inl hi
        · have h2 := ownsRow_setCell_other HO2.out (a := ⟨w.heap.size + 1 + 1 + 1, 0, none⟩) (fun hi => by have : W1.heap.size ≤ w.heap.size + 1 + 1 + 1 := (HO2.out.lt _ hi).1; have := HZ.out; omega) (.slice A2 (2 * pre.length + 2) c2)
          rw [List.length_append, List.flatMap_append, List.flatMap_singleton, HGX.out]
          exact h2
    case done =>
      rintro D ys W hD rfl ⟨hch, v, hv, hown⟩ hK
      have hc := hv.cell
      rw [List.length_range, show (List.range 256).flatMap (fun k => [secI h a (67 + 2 * ((k % 256 : Nat) : Int) + bitI m (k % 256)), endL h a (k % 256) (1 - bitI m (k % 256))]) = sgnL h a m 256 from range_flat (fun k => secI h a (67 + 2 * (k : Int) + bitI m k)) (fun k => endL h a k (1 - bitI m k)) 256 (by omega)] at hown
      obtain ⟨B2, c2, rfl⟩ : ∃ B c, v = .slice B 512 c := by
        rcases hown.2 with ⟨_, h0⟩ | ⟨g, cap, cur, rfl, _⟩
        · omega
        · exact ⟨_, cap, rfl⟩
      have HO := Lib.hid hown
      have HB := Lib.hid ((HU1.out.mono (T := fun i => i = w.heap.size + 1 + 1 + 1) (fun _ _ h => h.elim)).then hch (fun i hi => .inl hi))
      clear hv hown hch
      gi_wp2
      refine ⟨by simp, .inl ⟨_, _, rfl, run_takeDeferred hK, ?_⟩⟩
      refine ⟨_, results_tmp2 rfl _ _ _, (HB.out.below (Nat.le_refl _) (fun i hi => by omega)).trans (belowK_b (w := w) (Nat.le_refl _) W D _ _ (by have := HZ.out; omega) hK rfl rfl), .inl ⟨HIN.out, _, _, rfl, ?_⟩⟩
      exact own_base (ownsRow_putObj HO.out _ hK rfl) (by have := HZ.out; omega)
    case stop =>
      rintro D c pre W _ _ h _
      exact h.elim
end Go.Proofs.YtaahffminoekfaaDoor
