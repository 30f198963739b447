/-
  Cached, walked: which sectors are cached, in their order.
-/
import Derived.Test.YtkndnlhlglgmfaaE16
import Derived.Test.YtkndnlhlglgmfaaLaid
namespace Go.Proofs.Ytkndnlhlglgmfaa
open Go.RowKit Go.Maps Go.Sort Go.Shelf
/-- The cached sectors. -/
def cachedN (x : Dk) (k : Nat) : List Int := ((List.range k).filter (fun i => (x.ca (i : Nat)).isSome)).map (fun i : Nat => (i : Int))
theorem cachedN_succ (x : Dk) (k : Nat) : cachedN x (k + 1) = if (x.ca (k : Nat)).isSome then cachedN x k ++ [(k : Int)] else cachedN x k := by
  unfold cachedN
  rw [List.range_succ, List.filter_append, List.map_append]
  cases h : (x.ca (k : Nat)).isSome <;> simp [h]
theorem cachedN_len (x : Dk) (k : Nat) : (cachedN x k).length ≤ k := by
  unfold cachedN
  rw [List.length_map]
  exact Nat.le_trans (List.length_filter_le _ _) (by simp)
theorem cachedN_mem (x : Dk) (k : Nat) (i : Int) : i ∈ cachedN x k ↔ 0 ≤ i ∧ i < k ∧ (x.ca i).isSome := by
  unfold cachedN
  simp only [List.mem_map, List.mem_filter, List.mem_range]
  constructor
  · rintro ⟨a, ⟨h1, h2⟩, rfl⟩
    exact ⟨by omega, by omega, h2⟩
  · rintro ⟨h1, h2, h3⟩
    exact ⟨i.toNat, ⟨by omega, by rw [show ((i.toNat : Nat) : Int) = i by omega]; exact h3⟩, by omega⟩
theorem cachedN_sorted (x : Dk) (k : Nat) : (cachedN x k).Pairwise (fun a b => a < b) := by
  unfold cachedN
  refine List.pairwise_map.2 ((List.pairwise_lt_range).filter _ |>.imp (fun h => by omega))
theorem cachedN_at (x : Dk) (i n : Nat) (hi : i < n) (h : (x.ca (i : Nat)).isSome = true) : (cachedN x n)[(cachedN x i).length]? = some (i : Int) := by
  induction n with
  | zero => omega
  | succ n ih =>
    rw [cachedN_succ]
    by_cases e : i = n
    · subst e
      rw [if_pos h]
      rw [List.getElem?_append_right (Nat.le_refl _), Nat.sub_self]
      rfl
    · have := ih (by omega)
      split
      · rw [List.getElem?_append_left (List.getElem?_eq_some_iff.1 this).1]
        exact this
      · exact this
theorem wf_bounds {i : Int} (h : (Lit.int .i64 i).wf = true) : I64 i := by
  have e1 : IntKind.i64.min = -9223372036854775808 := by decide
  have e2 : IntKind.i64.max = 9223372036854775807 := by decide
  simp only [Lit.wf, e1, e2, Bool.and_eq_true, decide_eq_true_eq] at h
  exact h
/-- A map of what is cached: its keys, sorted. -/
theorem keys_sorted {w : World} {p b m : Nat} {sv : Value} {ss : List Value} {C : Int → Option Value} {x : Dk} (h : DiskAt w p b m sv ss C x) (hnb : x.has.length ≤ 65536) {D : DataW Value} (hD : w.ownsMap Try.prog 3 RV b m D) (hv : ∀ i, I64 i → Maps.has D (.int .i64 i) = (C i).isSome) {zs : List Int} (hz : zs.Perm (intKeys D)) :
    zs.mergeSort (fun a b => decide (a ≤ b)) = cachedN x x.has.length := by
  have hC : ∀ i, (C i).isSome = true ↔ 0 ≤ i ∧ i < x.has.length ∧ (x.ca i).isSome = true := fun i => by
    constructor
    · intro hs
      obtain ⟨v, hv⟩ := Option.isSome_iff_exists.1 hs
      obtain ⟨k1, k2, xs, k3, _⟩ := h.key i v hv
      exact ⟨k1, k2, by rw [k3]; rfl⟩
    · rintro ⟨_, _, hs⟩
      cases hc : C i with
      | some v => rfl
      | none => rw [h.non i hc] at hs; cases hs
  have hmem : ∀ i, Maps.has D (.int .i64 i) = true → I64 i := fun i hi => by
    obtain ⟨es, rfl, hko⟩ := hD.keysOf
    rw [Maps.has_eq, List.any_eq_true] at hi
    obtain ⟨q, hq, hs⟩ := hi
    obtain ⟨v, hv⟩ := hko q hq
    obtain ⟨y, _, hy, hl⟩ := Maps.keyOf_i64 Try.underlying3 hv
    rw [hy] at hs
    have : y = i := by simpa [Lit.sameKey] using hs
    subst this
    exact wf_bounds hl
  have hperm : (cachedN x x.has.length).Perm (intKeys D) := by
    have hcol : CollectedI D (fun _ => false) (cachedN x x.has.length) := by
      refine ⟨(cachedN_sorted x _).imp (fun h => by omega), fun i => ?_⟩
      rw [cachedN_mem]
      constructor
      · intro hi
        refine ⟨?_, rfl⟩
        rw [hv i (by unfold I64; omega)]
        exact (hC i).2 hi
      · rintro ⟨hi, _⟩
        have := hmem i hi
        rw [hv i this] at hi
        exact (hC i).1 hi
    exact hcol.perm hD K3 Try.underlying3 (fun _ => rfl)
  rw [mergeSort_of_perm_i (hz.trans hperm.symm)]
  refine List.mergeSort_of_pairwise ((cachedN_sorted x _).imp (fun h => ?_))
  simp only [leI, decide_eq_true_eq]
  omega
theorem sorts67 (m : Nat) : AnyZI.SortsIn Try.prog sorted67_ren Fence.wide m :=
  ⟨fun blk off cap ss W hH hblk hsz => callsIn_wide.2 (AnyM.slices_Sort_int sort86 blk off cap ss W hH hblk hsz),
   fun p cap W => callsIn_wide.2 (AnyM.slices_Sort_int_none sort86 p cap W)⟩
set_option maxRecDepth 100000 in
set_option maxHeartbeats 4000000 in
theorem keys_calls (b nn : Nat) (D0 : DataW Value) (w : World) (hown : w.ownsMap Try.prog 3 RV b nn D0) (hmax : nn ≤ 1000000) :
    CallsIn Fence.wide 5 Try.prog 67 #[.func (.func 87) #[] #[.pointer (some ⟨w.heap.size, 0, none⟩)]] (w.alloc (.cells #[.map (some b)] 79)) fun e w' => ∃ (v : Value) (ss : List Int), e = .returned v ∧ ss.Perm (intKeys D0) ∧
      w'.ownsRow (w.alloc (.cells #[.map (some b)] 79)).heap.size 3 1 v ss.length ((ss.mergeSort (fun x y => decide (x ≤ y))).map encZ) ∧ (v = .slice none 0 0 ↔ ss = []) ∧ Below (w.alloc (.cells #[.map (some b)] 79)).heap.size (w.alloc (.cells #[.map (some b)] 79)) w' := by
  have hbl := hown.lt
  have hsz := hown.size_le
  have hseq : SeqGives Fence.wide 2 Try.prog 87 #[.pointer (some ⟨w.heap.size, 0, none⟩)] encZ (fun ss => ss.Perm (intKeys D0)) (Maps.size D0) (w.alloc (.cells #[.map (some b)] 79)) :=
    AnyZI.keys_gives (ρ := keys68_ren) { keys68 with } Fence.wide _ trivial rfl (by omega) w.heap.size b nn D0 _ (by simp) (by simp) (by
      obtain ⟨es, clock, hb, Ft, hs, hD⟩ := hown
      exact ⟨es, clock, (Below.heap_alloc _ _ b hbl).trans hb, Ft, hs, hD⟩)
  have cS := AnyZI.sorted_in sorted67 Fence.wide 5 trivial trivial trivial trivial rfl (by omega) (sorts67 _) (enters_of Try.func86 (by kernel_rfl) rfl) 87 #[.pointer (some ⟨w.heap.size, 0, none⟩)] trivial (enters_of Try.func87 (by kernel_rfl) rfl) _ _ (by unfold maxLen; omega) (by omega) _ hseq
  exact cS
theorem maps_keys (mb : Option Nat) (W : World) : CallsIn Fence.wide 5 Try.prog 68 #[.map mb] W fun e w' => e = .returned (.func (.func 87) #[] #[.pointer (some ⟨W.heap.size, 0, none⟩)]) ∧ w' = W.alloc (.cells #[.map mb] 79) := AnyZI.keys_in keys68 Fence.wide 5 trivial rfl mb W
def CachedPost (w : World) (x : Dk) (e : Ending) (w' : World) : Prop := ∃ v, e = .returned v ∧ w'.ownsRow w.heap.size 3 1 v (cachedN x x.has.length).length (i64s (cachedN x x.has.length)) ∧ Below w.heap.size w w'
set_option maxRecDepth 100000 in
set_option maxHeartbeats 4000000 in
theorem vcached (w : World) (p b : Nat) (sv : Value) (x : Dk) (k : Nat) (h : DskV w p b sv x k) (hk : k ≤ 1000000) (hnb : x.has.length ≤ 65536) : Calls Try.prog 39 #[.pointer (some ⟨p, 0, none⟩)] w (CachedPost w x) := by
  obtain ⟨m, ss, C, h1, h2⟩ := h
  obtain ⟨D, hD, hv⟩ := h1.map
  have hks := fun {zs : List Int} (hz : zs.Perm (intKeys D)) => keys_sorted h1 hnb hD (fun i hi => (hv i hi).1) hz
  have HKS : Hid (∀ zs : List Int, zs.Perm (intKeys D) → zs.mergeSort (fun a b => decide (a ≤ b)) = cachedN x x.has.length) := Lib.hid (fun zs hz => hks hz)
  have c2 := h1.c2
  refine (callsIn_wide (n := 6)).1 ?_
  have hfK : Fence.wide.fn 68 := trivial
  have hfS : Fence.wide.fn 67 := trivial
  have cK := maps_keys
  have cS := keys_calls b m D w hD (by omega)
  clear hks hv hD h1
  refine callsIn_of_wp Try.func39 rfl trivial ?_ rfl
  simp only [Try.ntmps39, List.size_toArray, List.length_cons, List.length_nil, Nat.reduceAdd, Nat.reduceSub, Array.replicate_succ, Array.replicate_zero, List.push_toArray, List.append_toArray, List.nil_append, List.cons_append]
  gi_wp2_with (first
    | (gi_at_call 68; refine (cK _ _).mono ?_; rintro e w' ⟨rfl, rfl⟩)
    | (gi_at_call 67; refine cS.mono ?_; rintro e w' ⟨v, ss, rfl, hS, hrow, hnil, hb⟩))
  go_ret
  have e := HKS.out _ hS
  have hl : ss.length = (cachedN x x.has.length).length := by rw [← e, List.length_mergeSort]
  rw [e, hl] at hrow
  exact ⟨v, rfl, own_base hrow (by simp), ((Below.refl _ w).alloc (Nat.le_refl _) _).trans (hb.mono (by simp))⟩
end Go.Proofs.Ytkndnlhlglgmfaa
