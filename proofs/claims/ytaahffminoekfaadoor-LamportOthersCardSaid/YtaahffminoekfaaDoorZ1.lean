/-
  Secrets and ends of layer 5; two hashes added to a row; slices.Clone of hashes.
-/
import Derived.Test.YtaahffminoekfaaDoorY9
import Derived.Test.YtaahffminoekfaaDoorX3
import Derived.Test.YtaahffminoekfaaDoorL1
namespace Go.Proofs.YtaahffminoekfaaDoor
open Go.RowKit
theorem right70_any (a : Int) (w : World) : Calls Tryd.prog 70 #[.int .i64 a] w (fun e w' => e = .returned (.bool (decide (0 ≤ a) && decide (a ≤ 2147483647))) ∧ w' = w) := by
  go_enter Tryd.func70, Tryd.ntmps70
  by_cases h1 : 0 ≤ a
  · by_cases h2 : a ≤ 2147483647
    · go_wp2
      go_ret
      exact ⟨by simp [h1, h2], rfl⟩
    · go_wp2
      go_ret
      exact ⟨by simp [h1, h2], rfl⟩
  · go_wp2
    go_ret
    exact ⟨by simp [show decide (0 ≤ a) = false by simpa using h1], rfl⟩
theorem stepI_len (h : List Int) (c s : Int) : (stepI h c s).length = 32 := by rw [← stepI_eq]; exact hash_size _
theorem stepI_bytes (h : List Int) (c s : Int) : Bytes (stepI h c s) := by rw [← stepI_eq]; exact shaI_bytes _
theorem u8s_append (x y : List Int) : u8s (x ++ y) = u8s x ++ u8s y := by simp [u8s]
theorem run_build_two (w : World) (x y : List Int) (cx cy : Array Value) (hcx : (u8s x).toArray = cx) (hx : x.length = 32) (hcy : (u8s y).toArray = cy) (hy : y.length = 32) :
    (Instr.buildSlice 49 2 #[(0, .agg cx), (1, .agg cy)]).run Tryd.prog w = .ok (.slice (some ⟨w.heap.size, 0, none⟩) 2 2) (w.alloc (.cells (u8s (x ++ y)).toArray 25)) := by
  obtain ⟨i, hi, hzz⟩ := Option.map_eq_some_iff.1 info25z
  simp only [Prod.mk.injEq] at hzz
  obtain ⟨hz0, hz1, hz2⟩ := hzz
  have hs : cx.size = 32 := by rw [← hcx]; simp [u8s, hx]
  have hs2 : cy.size = 32 := by rw [← hcy]; simp [u8s, hy]
  refine run_buildSlice w 49 25 2 _ _ i _ Tryd.underlying49 hi hz0 (by rw [hz1]; omega) (by rw [hz1]; omega) ?_
  rw [hz1]
  have := Great.fill_whole (s := 32) (by omega) [.agg cx, .agg cy] ((Array.range (2 * 32)).map ((Value.agg ((List.replicate 32 (Value.int .u8 0)).toArray)).cells[· % (Value.agg ((List.replicate 32 (Value.int .u8 0)).toArray)).cells.size]!)) (by
    intro v hv
    rcases List.mem_cons.1 hv with rfl | hv
    · exact hs
    · obtain rfl := List.mem_singleton.1 hv; exact hs2) (by simp)
  have e : ([Value.agg cx, .agg cy].flatMap fun v => v.cells.toList).toArray = (u8s (x ++ y)).toArray := by
    simp [Value.cells, ← hcx, ← hcy, u8s_append]
  rw [e] at this
  exact this
theorem gives_build_two {o : Oper} {ρ : Operand → Value} {w : World} {Φ : Value → World → Prop} {p q : Operand} (ho : o.op = .buildSlice 49 2 #[(0, p), (1, q)]) (x y : List Int) (hp : ρ p = hashV x) (hq : ρ q = hashV y) (hx : x.length = 32) (hy : y.length = 32)
    (k : Φ (.slice (some ⟨w.heap.size, 0, none⟩) 2 2) (w.alloc (.cells (u8s (x ++ y)).toArray 25))) : Gives Tryd.prog o ρ w Φ := by
  refine Gives.value (v := .slice (some ⟨w.heap.size, 0, none⟩) 2 2) (w' := w.alloc (.cells (u8s (x ++ y)).toArray 25)) ?_ k
  unfold execOp
  simp only [ho, Sem.run_bind, List.map_toArray, List.map_cons, List.map_nil, hp, hq, hashV, run_build_two w x y _ _ rfl hx rfl hy, Result.andThen_ok, Sem.run_pure]
/-- Two hashes added to a row of the call's own. -/
theorem push_two (w : World) (base : Nat) (v : Value) (n : Nat) (hs : List (List Int)) (hown : w.ownsRow base 25 32 v n (u8s hs.flatten)) (g : Nat) (x y : List Int) (hg : w.heap[g]? = some (.cells (u8s (x ++ y)).toArray 25 (0, 0))) (hx : x.length = 32) (hy : y.length = 32) (hn : n ≤ 100000) (hbase : base ≤ w.heap.size) :
    ∃ A c w', (Builtin.append_ #[49, 49] 49 #[v, .slice (some ⟨g, 0, none⟩) 2 2]).run Tryd.prog w = .ok (.slice A (n + 2) c) w' ∧ w'.ownsRow base 25 32 (.slice A (n + 2) c) (n + 2) (u8s (hs ++ [x, y]).flatten) ∧
      Chg (fun k => v.ownBlock = some k) w w' ∧ w.heap.size ≤ w'.heap.size := by
  obtain ⟨v', w', hr, ho, hgr, _, hb⟩ := ap_run (P := Tryd.prog) w 49 49 base 25 (.agg ((List.replicate 32 (Value.int .u8 0)).toArray)) 32 32 Tryd.underlying49 info25z rfl (by decide) v n _ hown (.slice (some ⟨g, 0, none⟩) 2 2) 2 (u8s (x ++ y))
    (.inr ⟨_, 2, rfl, by rw [u8s_len, List.length_append, hx, hy], Nat.le_refl _, by omega, fun j z hz => by
      rw [addr_add, cell_of_row _ _ _ _ _ _ hg, Nat.zero_add]
      simpa using hz⟩) (u8s_one _) (by omega) (by omega) hbase
  have hsh : ∃ A c, v' = .slice A (n + 2) c := by
    rcases ho.2 with ⟨rfl, h0⟩ | ⟨g, cap, cur, rfl, _⟩
    · omega
    · exact ⟨_, cap, rfl⟩
  obtain ⟨A, c, rfl⟩ := hsh
  refine ⟨A, c, w', hr, ?_, (Chg.of_grownBy hgr).mono (fun i _ hi => hi.symm), (Chg.of_grownBy hgr).size⟩
  rw [List.flatten_append]
  simpa [u8s] using ho
/-- Pairs in a row. -/
def pairs (f g : Nat → List Int) (n : Nat) : List (List Int) := (List.range n).flatMap fun k => [f k, g k]
theorem pairs_zero (f g : Nat → List Int) : pairs f g 0 = [] := rfl
theorem pairs_succ (f g : Nat → List Int) (n : Nat) : pairs f g (n + 1) = pairs f g n ++ [f n, g n] := by
  unfold pairs; rw [List.range_succ, List.flatMap_append]; rfl
theorem pairs_len (f g : Nat → List Int) (n : Nat) : (pairs f g n).length = 2 * n := by
  induction n with
  | zero => rfl
  | succ n ih => rw [pairs_succ, List.length_append, ih]; simp; omega
theorem pairs_at (f g : Nat → List Int) (n k : Nat) (hk : k < n) : (pairs f g n).getD (2 * k) [] = f k ∧ (pairs f g n).getD (2 * k + 1) [] = g k := by
  induction n with
  | zero => omega
  | succ n ih =>
    have hl := pairs_len f g n
    rw [pairs_succ]
    simp only [List.getD_eq_getElem?_getD]
    by_cases h : k < n
    · rw [List.getElem?_append_left (by omega), List.getElem?_append_left (by omega)]
      simpa only [List.getD_eq_getElem?_getD] using ih h
    · obtain rfl : k = n := by omega
      rw [List.getElem?_append_right (by omega), List.getElem?_append_right (by omega), hl, Nat.sub_self, show 2 * k + 1 - 2 * k = 1 by omega]
      exact ⟨rfl, rfl⟩
theorem pairs_each (f g : Nat → List Int) (n : Nat) (hf : ∀ k, (f k).length = 32 ∧ Bytes (f k)) (hg : ∀ k, (g k).length = 32 ∧ Bytes (g k)) : ∀ r, r < 2 * n → ((pairs f g n).getD r []).length = 32 ∧ Bytes ((pairs f g n).getD r []) := by
  intro r hr
  obtain ⟨h0, h1⟩ := pairs_at f g n (r / 2) (by omega)
  rcases Nat.mod_two_eq_zero_or_one r with h | h
  · rw [show r = 2 * (r / 2) by omega, h0]; exact hf _
  · rw [show r = 2 * (r / 2) + 1 by omega, h1]; exact hg _
/-- An end: one step of a secret. -/
def endL (h : List Int) (a : Int) (k : Nat) (b : Int) : List Int := stepI (secI h a (67 + 2 * (k : Int) + b)) (67 + (k : Int)) b
theorem endL_ok (h : List Int) (a : Int) (k : Nat) (b : Int) : (endL h a k b).length = 32 ∧ Bytes (endL h a k b) := ⟨stepI_len _ _ _, stepI_bytes _ _ _⟩
attribute [irreducible] endL
theorem endL_eq (h : List Int) (a : Int) (k : Nat) (b : Int) : stepI (secI h a (67 + 2 * (k : Int) + b)) (67 + (k : Int)) b = endL h a k b := by rw [endL]
def pubL (h : List Int) (a : Int) (n : Nat) : List (List Int) := pairs (fun k => endL h a k 0) (fun k => endL h a k 1) n
def sgnL (h : List Int) (a : Int) (m : List Int) (n : Nat) : List (List Int) := pairs (fun k => secI h a (67 + 2 * (k : Int) + bitI m k)) (fun k => endL h a k (1 - bitI m k)) n
theorem pubL_each (h : List Int) (a : Int) (n : Nat) : ∀ r, r < 2 * n → ((pubL h a n).getD r []).length = 32 ∧ Bytes ((pubL h a n).getD r []) := pairs_each _ _ _ (fun _ => endL_ok _ _ _ _) (fun _ => endL_ok _ _ _ _)
theorem sgnL_each (h : List Int) (a : Int) (m : List Int) (n : Nat) : ∀ r, r < 2 * n → ((sgnL h a m n).getD r []).length = 32 ∧ Bytes ((sgnL h a m n).getD r []) := pairs_each _ _ _ (fun _ => ⟨secI_len _ _ _, secI_bytes _ _ _⟩) (fun _ => endL_ok _ _ _ _)
set_option maxRecDepth 100000 in
set_option maxHeartbeats 2000000 in
theorem lsec_any (h : List Int) (a k b : Int) (w : World) (hl : h.length = 32) (hb : Bytes h) (ha : I64 a) (hk0 : 0 ≤ k) (hk1 : k ≤ 255) (hb0 : 0 ≤ b) (hb1 : b ≤ 1) (hla : Laid w) :
    Calls Tryd.prog 72 #[hashV h, .int .i64 a, .int .i64 k, .int .i64 b] w (HashPost (secI h a (67 + 2 * k + b)) w) := by
  have hl2 := hla.lt
  obtain ⟨cx, hcx, hux, _, _, hsz, hs32⟩ := hash_parts h hl
  obtain ⟨W0, hW0⟩ : ∃ W0, W0 = (w.alloc (.cells cx 25)).alloc (.cells ((List.replicate 32 (Value.int .u8 0)).toArray) 25) := ⟨_, rfl⟩
  have HR0 : Hid (W0.heap[w.heap.size + 1]? = some (.cells ((List.replicate 32 (Value.int .u8 0)).toArray) 25 (0, 0))) := Lib.hid (by
    rw [hW0]; have := heap_alloc_last (w.alloc (.cells cx 25)) (.cells ((List.replicate 32 (Value.int .u8 0)).toArray) 25); rwa [World.size_alloc] at this)
  have HX0 : Hid (W0.heap[w.heap.size]? = some (.cells cx 25 (0, 0))) := Lib.hid (by rw [hW0]; exact (Below.heap_alloc _ _ _ (by simp)).trans (heap_alloc_last _ _))
  have hc0 : Chg (fun i => w.heap.size ≤ i) w W0 := by rw [hW0]; exact ((Chg.refl _ w).alloc _).alloc _
  have HWL : Hid (W0 = (w.alloc (.cells cx 25)).alloc (.cells (#[.int .u8 0, .int .u8 0, .int .u8 0, .int .u8 0, .int .u8 0, .int .u8 0, .int .u8 0, .int .u8 0, .int .u8 0, .int .u8 0, .int .u8 0, .int .u8 0, .int .u8 0, .int .u8 0, .int .u8 0, .int .u8 0, .int .u8 0, .int .u8 0, .int .u8 0, .int .u8 0, .int .u8 0, .int .u8 0, .int .u8 0, .int .u8 0, .int .u8 0, .int .u8 0, .int .u8 0, .int .u8 0, .int .u8 0, .int .u8 0, .int .u8 0, .int .u8 0]) 25)) := Lib.hid (by rw [hW0]; rfl)
  have hcall := secret2_any h a (67 + 2 * k + b) W0 hl hb ha ⟨by omega, by omega⟩ (hla.chg hc0 (by omega) (by omega))
  unfold HashPost at hcall
  have hrl : (secI h a (67 + 2 * k + b)).length = 32 := by first | exact secI_len _ _ _ | exact stepI_len _ _ _
  obtain ⟨x, hx⟩ : ∃ x, secI h a (67 + 2 * k + b) = x := ⟨_, rfl⟩
  rw [hx] at hcall hrl ⊢
  obtain ⟨hc, hhc, _, hone, _, hszc, hso⟩ := hash_parts x hrl
  rw [hhc, hcx] at hcall
  rw [hcx]
  have hwz0 : w.heap.size + 1 < W0.heap.size := (Array.getElem?_eq_some_iff.1 HR0.out).1
  have HCALL := Lib.hid hcall
  have HHC := Lib.hid hhc
  have HON := Lib.hid hone
  have HSZ := Lib.hid hszc
  have HSO := Lib.hid hso
  have HSX := Lib.hid hsz
  have HC0 := Lib.hid hc0
  clear hcx hux hl hb hla hsz hs32 hW0 hcall hhc hone hszc hso hrl hx hc0
  go_enter Tryd.func72, Tryd.ntmps72
  go_wp2_with (refine wpList_load_row rfl 25 (.tmp 4) rfl w.heap.size (by rfl) 25 cx (0, 0) _ (by rw [← HWL.out]; exact HX0.out) Tryd.underlying25 rfl HSX.out ?_)
  rw [← HWL.out]
  refine HCALL.out.mono ?_
  rintro e W2 ⟨rfl, hb2⟩
  have H4 := Lib.hid ((up_below hb2).heap HR0.out (fun h => h))
  have HC4 := Lib.hid (HC0.out.then (up_below hb2) (fun _ h => h.elim))
  clear hb2 HR0 HX0 HC0 HCALL HWL
  go_wp2_with (refine wpList_store_row rfl 25 (.tmp 8) (.tmp 16) rfl (w.heap.size + 1) hc (by rfl) (by rfl) 25 _ H4.out HSZ.out (by rw [HSO.out]; rfl) HON.out ?_)
  refine bodyPost_ret (v := .agg hc) (results_cell_row rfl _ _ (w.heap.size + 1) 25 hc (0, 0) _ (by rfl) (setRow_same W2 (w.heap.size + 1) hc _ 25 (0, 0) H4.out) Tryd.underlying25 rfl HSZ.out) rfl ?_
  exact ⟨by rw [HHC.out], (HC4.out.setRow (w.heap.size + 1) (.inl (by omega)) hc).below (Nat.le_refl _) (fun _ h => h)⟩
set_option maxRecDepth 100000 in
set_option maxHeartbeats 2000000 in
theorem lend_any (h : List Int) (k b : Int) (w : World) (hl : h.length = 32) (hb : Bytes h) (hk0 : 0 ≤ k) (hk1 : k ≤ 255) (hb0 : 0 ≤ b) (hb1 : b ≤ 1) (hla : Laid w) :
    Calls Tryd.prog 73 #[hashV h, .int .i64 k, .int .i64 b] w (HashPost (stepI h (67 + k) b) w) := by
  have hl2 := hla.lt
  obtain ⟨cx, hcx, hux, _, _, hsz, hs32⟩ := hash_parts h hl
  obtain ⟨W0, hW0⟩ : ∃ W0, W0 = (w.alloc (.cells cx 25)).alloc (.cells ((List.replicate 32 (Value.int .u8 0)).toArray) 25) := ⟨_, rfl⟩
  have HR0 : Hid (W0.heap[w.heap.size + 1]? = some (.cells ((List.replicate 32 (Value.int .u8 0)).toArray) 25 (0, 0))) := Lib.hid (by
    rw [hW0]; have := heap_alloc_last (w.alloc (.cells cx 25)) (.cells ((List.replicate 32 (Value.int .u8 0)).toArray) 25); rwa [World.size_alloc] at this)
  have HX0 : Hid (W0.heap[w.heap.size]? = some (.cells cx 25 (0, 0))) := Lib.hid (by rw [hW0]; exact (Below.heap_alloc _ _ _ (by simp)).trans (heap_alloc_last _ _))
  have hc0 : Chg (fun i => w.heap.size ≤ i) w W0 := by rw [hW0]; exact ((Chg.refl _ w).alloc _).alloc _
  have HWL : Hid (W0 = (w.alloc (.cells cx 25)).alloc (.cells (#[.int .u8 0, .int .u8 0, .int .u8 0, .int .u8 0, .int .u8 0, .int .u8 0, .int .u8 0, .int .u8 0, .int .u8 0, .int .u8 0, .int .u8 0, .int .u8 0, .int .u8 0, .int .u8 0, .int .u8 0, .int .u8 0, .int .u8 0, .int .u8 0, .int .u8 0, .int .u8 0, .int .u8 0, .int .u8 0, .int .u8 0, .int .u8 0, .int .u8 0, .int .u8 0, .int .u8 0, .int .u8 0, .int .u8 0, .int .u8 0, .int .u8 0, .int .u8 0]) 25)) := Lib.hid (by rw [hW0]; rfl)
  have hcall := chain_any h (67 + k) b W0 hl hb (by omega) (by omega) (by omega) (by omega) (hla.chg hc0 (by omega) (by omega))
  unfold SumPost at hcall
  rw [stepI_eq] at hcall
  have hrl : (stepI h (67 + k) b).length = 32 := by first | exact secI_len _ _ _ | exact stepI_len _ _ _
  obtain ⟨x, hx⟩ : ∃ x, stepI h (67 + k) b = x := ⟨_, rfl⟩
  rw [hx] at hcall hrl ⊢
  obtain ⟨hc, hhc, _, hone, _, hszc, hso⟩ := hash_parts x hrl
  rw [hhc, hcx] at hcall
  rw [hcx]
  have hwz0 : w.heap.size + 1 < W0.heap.size := (Array.getElem?_eq_some_iff.1 HR0.out).1
  have HCALL := Lib.hid hcall
  have HHC := Lib.hid hhc
  have HON := Lib.hid hone
  have HSZ := Lib.hid hszc
  have HSO := Lib.hid hso
  have HSX := Lib.hid hsz
  have HC0 := Lib.hid hc0
  clear hcx hux hl hb hla hsz hs32 hW0 hcall hhc hone hszc hso hrl hx hc0
  go_enter Tryd.func73, Tryd.ntmps73
  go_wp2_with (refine wpList_load_row rfl 25 (.tmp 3) rfl w.heap.size (by rfl) 25 cx (0, 0) _ (by rw [← HWL.out]; exact HX0.out) Tryd.underlying25 rfl HSX.out ?_)
  rw [← HWL.out]
  refine HCALL.out.mono ?_
  rintro e W2 ⟨rfl, hb2⟩
  have H4 := Lib.hid ((up_below hb2).heap HR0.out (fun h => h))
  have HC4 := Lib.hid (HC0.out.then (up_below hb2) (fun _ h => h.elim))
  clear hb2 HR0 HX0 HC0 HCALL HWL
  go_wp2_with (refine wpList_store_row rfl 25 (.tmp 6) (.tmp 11) rfl (w.heap.size + 1) hc (by rfl) (by rfl) 25 _ H4.out HSZ.out (by rw [HSO.out]; rfl) HON.out ?_)
  refine bodyPost_ret (v := .agg hc) (results_cell_row rfl _ _ (w.heap.size + 1) 25 hc (0, 0) _ (by rfl) (setRow_same W2 (w.heap.size + 1) hc _ 25 (0, 0) H4.out) Tryd.underlying25 rfl HSZ.out) rfl ?_
  exact ⟨by rw [HHC.out], (HC4.out.setRow (w.heap.size + 1) (.inl (by omega)) hc).below (Nat.le_refl _) (fun _ h => h)⟩
end Go.Proofs.YtaahffminoekfaaDoor
