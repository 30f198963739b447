/-
  The document's disk in memory; command, Now, settle, walked.
-/
import Derived.Test.YtkndnlhlglgmfaaE18
namespace Go.Proofs.Ytkndnlhlglgmfaa
open Go.RowKit
/-- A row of strings. -/
def strs (n : Nat) (f : Nat → List Int) : List Value := (List.range n).map (fun j => .string (strOfNums (f j)))
def updN (f : Nat → List Int) (k : Nat) (xs : List Int) : Nat → List Int := fun j => if j = k then xs else f j
theorem strs_len (n : Nat) (f : Nat → List Int) : (strs n f).length = n := by simp [strs]
theorem strs_at {n : Nat} {f : Nat → List Int} {k : Nat} (h : k < n) : (strs n f)[k]? = some (.string (strOfNums (f k))) := by simp [strs, h]
theorem strs_congr {n : Nat} {f g : Nat → List Int} (h : ∀ j, j < n → f j = g j) : strs n f = strs n g := by
  unfold strs
  refine List.map_congr_left (fun j hj => ?_)
  rw [h j (List.mem_range.1 hj)]
theorem strs_set (n : Nat) (f : Nat → List Int) (k : Nat) (xs : List Int) : (strs n f).set k (.string (strOfNums xs)) = strs n (updN f k xs) := by
  apply List.ext_getElem?
  intro j
  by_cases hj : j < n
  · by_cases e : j = k
    · subst e
      rw [List.getElem?_set_self (by rw [strs_len]; exact hj), strs_at hj]
      simp [updN]
    · rw [List.getElem?_set_ne (fun h => e h.symm), strs_at hj, strs_at hj]
      simp [updN, e]
  · rw [List.getElem?_eq_none (by simp [strs_len]; omega), List.getElem?_eq_none (by rw [strs_len]; omega)]
/-- The document's disk: two rows of strings. -/
structure RefF (w : World) (p : Nat) (sv1 sv2 : Value) (n size : Nat) (L dn : Int) (ar dw : Bool) (h c : Nat → List Int) : Prop where
  obj : w.heap[p]? = some (.cells #[sv1, sv2, .int .i64 size, .int .i64 L, .int .i64 dn, .bool ar, .bool dw] 103 (0, 0))
  r1 : w.ownsRow 0 9 1 sv1 n (strs n h)
  r2 : w.ownsRow 0 9 1 sv2 n (strs n c)
  ap : ∀ k, sv1.ownBlock = some k → sv2.ownBlock = some k → False
def OwnR (p : Nat) (sv1 sv2 : Value) (k : Nat) : Prop := k = p ∨ sv1.ownBlock = some k ∨ sv2.ownBlock = some k
section
variable {w w' : World} {p : Nat} {sv1 sv2 : Value} {n size : Nat} {L dn : Int} {ar dw : Bool} {h c : Nat → List Int}
theorem RefF.chg {S : Nat → Prop} (k : RefF w p sv1 sv2 n size L dn ar dw h c) (hc : Chg S w w') (hS : ∀ j, OwnR p sv1 sv2 j → ¬ S j) : RefF w' p sv1 sv2 n size L dn ar dw h c :=
  ⟨hc.heap k.obj (hS p (.inl rfl)), own_chg k.r1 hc (fun j hj => hS j (.inr (.inl hj))), own_chg k.r2 hc (fun j hj => hS j (.inr (.inr hj))), k.ap⟩
theorem RefF.up (k : RefF w p sv1 sv2 n size L dn ar dw h c) (hu : Up w w') : RefF w' p sv1 sv2 n size L dn ar dw h c := k.chg hu (fun _ _ h => h)
theorem RefF.c0 (k : RefF w p sv1 sv2 n size L dn ar dw h c) : w.cell? ⟨p, 0, none⟩ = some sv1 := cell_of_row w p 0 _ _ _ k.obj
theorem RefF.c1 (k : RefF w p sv1 sv2 n size L dn ar dw h c) : w.cell? ⟨p, 1, none⟩ = some sv2 := cell_of_row w p 1 _ _ _ k.obj
theorem RefF.c2 (k : RefF w p sv1 sv2 n size L dn ar dw h c) : w.cell? ⟨p, 2, none⟩ = some (.int .i64 size) := cell_of_row w p 2 _ _ _ k.obj
theorem RefF.c3 (k : RefF w p sv1 sv2 n size L dn ar dw h c) : w.cell? ⟨p, 3, none⟩ = some (.int .i64 L) := cell_of_row w p 3 _ _ _ k.obj
theorem RefF.c4 (k : RefF w p sv1 sv2 n size L dn ar dw h c) : w.cell? ⟨p, 4, none⟩ = some (.int .i64 dn) := cell_of_row w p 4 _ _ _ k.obj
theorem RefF.c5 (k : RefF w p sv1 sv2 n size L dn ar dw h c) : w.cell? ⟨p, 5, none⟩ = some (.bool ar) := cell_of_row w p 5 _ _ _ k.obj
theorem RefF.c6 (k : RefF w p sv1 sv2 n size L dn ar dw h c) : w.cell? ⟨p, 6, none⟩ = some (.bool dw) := cell_of_row w p 6 _ _ _ k.obj
theorem RefF.fz (k : RefF w p sv1 sv2 n size L dn ar dw h c) (i : Nat) : w.frozen? ⟨p, i, none⟩ = false := frozen_of_row w p i _ _ k.obj
theorem RefF.lt (k : RefF w p sv1 sv2 n size L dn ar dw h c) (j : Nat) (hj : OwnR p sv1 sv2 j) : j < w.heap.size := by
  rcases hj with rfl | hj | hj
  · exact (Array.getElem?_eq_some_iff.1 k.obj).1
  · obtain ⟨cu, fu, hg⟩ := own_type k.r1 j hj
    exact (Array.getElem?_eq_some_iff.1 hg).1
  · obtain ⟨cu, fu, hg⟩ := own_type k.r2 j hj
    exact (Array.getElem?_eq_some_iff.1 hg).1
/-- Only the disk's numbers turn. -/
theorem RefF.nums (k : RefF w p sv1 sv2 n size L dn ar dw h c) (hc : Chg (fun i => i = p) w w') {L' dn' : Int} {ar' dw' : Bool} (ho : w'.heap[p]? = some (.cells #[sv1, sv2, .int .i64 size, .int .i64 L', .int .i64 dn', .bool ar', .bool dw'] 103 (0, 0))) : RefF w' p sv1 sv2 n size L' dn' ar' dw' h c := by
  refine ⟨ho, own_chg k.r1 hc (fun j hj e => ?_), own_chg k.r2 hc (fun j hj e => ?_), k.ap⟩
  · subst e
    obtain ⟨c2, f2, hh⟩ := own_type k.r1 j hj
    rw [k.obj] at hh; cases hh
  · subst e
    obtain ⟨c2, f2, hh⟩ := own_type k.r2 j hj
    rw [k.obj] at hh; cases hh
theorem RefF.congr {h' c' : Nat → List Int} (k : RefF w p sv1 sv2 n size L dn ar dw h c) (h1 : ∀ j, j < n → h j = h' j) (h2 : ∀ j, j < n → c j = c' j) : RefF w p sv1 sv2 n size L dn ar dw h' c' :=
  ⟨k.obj, by rw [← strs_congr h1]; exact k.r1, by rw [← strs_congr h2]; exact k.r2, k.ap⟩
end
section
variable {w : World} {p g1 g2 c1 c2 : Nat} {sv1 sv2 : Value} {n size : Nat} {L dn : Int} {ar dw : Bool} {h c : Nat → List Int}
theorem own_blocks {w : World} {e e' : TypeId} {s s' base base' n n' : Nat} {v : Value} {xs : List Value} {g : Nat} {cs : Array Value} {t : TypeId} {fr : Nat × Nat} (h : w.ownsRow base e s v n xs) (hg : w.heap[g]? = some (.cells cs t fr)) (ht : t ≠ e) : v.ownBlock ≠ some g := fun hv => by
  obtain ⟨cu, fu, hh⟩ := own_type h g hv
  rw [hg] at hh
  injection hh with hh
  injection hh with _ h2
  exact ht h2
theorem RefF.set1 (k : RefF w p (.slice (some ⟨g1, 0, none⟩) n c1) sv2 n size L dn ar dw h c) (i : Nat) (xs : List Int) : RefF (w.setCell ⟨g1, i, none⟩ (.string (strOfNums xs))) p (.slice (some ⟨g1, 0, none⟩) n c1) sv2 n size L dn ar dw (updN h i xs) c := by
  have hc : Chg (fun j => j = g1) w (w.setCell ⟨g1, i, none⟩ (.string (strOfNums xs))) := (Chg.refl (fun j => j = g1) w).setCell ⟨g1, i, none⟩ (.inl rfl) _
  obtain ⟨hs1, _⟩ := World.ownsRow.stored k.r1 i (.string (strOfNums xs))
  rw [strs_set] at hs1
  refine ⟨hc.heap k.obj (fun e => ?_), hs1, own_chg k.r2 hc (fun j hj e => k.ap j (by rw [e]; rfl) hj), k.ap⟩
  obtain ⟨cu, fu, hh⟩ := own_type k.r1 g1 rfl
  rw [← e, k.obj] at hh; cases hh
theorem RefF.set2 (k : RefF w p sv1 (.slice (some ⟨g2, 0, none⟩) n c2) n size L dn ar dw h c) (i : Nat) (xs : List Int) : RefF (w.setCell ⟨g2, i, none⟩ (.string (strOfNums xs))) p sv1 (.slice (some ⟨g2, 0, none⟩) n c2) n size L dn ar dw h (updN c i xs) := by
  have hc : Chg (fun j => j = g2) w (w.setCell ⟨g2, i, none⟩ (.string (strOfNums xs))) := (Chg.refl (fun j => j = g2) w).setCell ⟨g2, i, none⟩ (.inl rfl) _
  obtain ⟨hs1, _⟩ := World.ownsRow.stored k.r2 i (.string (strOfNums xs))
  rw [strs_set] at hs1
  refine ⟨hc.heap k.obj (fun e => ?_), own_chg k.r1 hc (fun j hj e => k.ap j hj (by rw [e]; rfl)), hs1, k.ap⟩
  obtain ⟨cu, fu, hh⟩ := own_type k.r2 g2 rfl
  rw [← e, k.obj] at hh; cases hh
/-- The rows' cells. -/
theorem row_at {w : World} {g n c1 : Nat} {h : Nat → List Int} (k : w.ownsRow 0 9 1 (.slice (some ⟨g, 0, none⟩) n c1) n (strs n h)) (i : Nat) (hi : i < n) : w.cell? ⟨g, i, none⟩ = some (.string (strOfNums (h i))) := by
  have := World.ownsRow.cells k rfl i _ (strs_at hi)
  rwa [addr_add, Nat.zero_add] at this
theorem own_some {w : World} {base n : Nat} {v : Value} {xs : List Value} {e : TypeId} (h : w.ownsRow base e 1 v n xs) (hn : 0 < n) : ∃ g c, v = .slice (some ⟨g, 0, none⟩) n c := by
  rcases h.2 with ⟨_, hz⟩ | ⟨g, cap, cur, he, _⟩
  · omega
  · exact ⟨g, cap, he⟩
end
theorem str_nil : (strOfNums []) = ⟨#[]⟩ := rfl
theorem str_none (xs : List Int) : ((strOfNums xs).toList == ([] : List UInt8)) = (xs == []) := by
  rw [Lib.strOfNums_toList]
  cases xs <;> rfl
set_option maxRecDepth 100000 in
set_option maxHeartbeats 4000000 in
theorem rnow_any (w : World) (p : Nat) (sv1 sv2 : Value) (n size : Nat) (L dn : Int) (ar dw : Bool) (h c : Nat → List Int) (k : RefF w p sv1 sv2 n size L dn ar dw h c) (hn : 0 < n) (hnb : n ≤ 65536) (i : Nat) (hi : i < n) : Calls Try.prog 44 #[.pointer (some ⟨p, 0, none⟩), .int .i64 i] w (fun e w' => e = .returned (.string (strOfNums (if c i = [] then h i else c i))) ∧ w' = w) := by
  obtain ⟨g1, c1, rfl⟩ := own_some k.r1 hn
  obtain ⟨g2, c2, rfl⟩ := own_some k.r2 hn
  have q0 := k.c0
  have q1 := k.c1
  have z1 := row_at k.r1 i hi
  have z2 := row_at k.r2 i hi
  have hz := str_none (c i)
  obtain ⟨s1, e1⟩ : ∃ s, strOfNums (h i) = s := ⟨_, rfl⟩
  obtain ⟨s2, e2⟩ : ∃ s, strOfNums (c i) = s := ⟨_, rfl⟩
  have hi' : (i : Int) < n := by omega
  rw [e1] at z1
  rw [e2] at z2 hz
  clear k
  by_cases h0 : c i = []
  · rw [if_pos h0]
    rw [e1]
    have hz' : (s2.toList == ([] : List UInt8)) = true := by rw [hz, h0]; rfl
    clear h0 e1 e2 hz
    go_enter Try.func44, Try.ntmps44
    go_wp2_with fail
    go_ret
    exact ⟨rfl, rfl⟩
  · rw [if_neg h0]
    rw [e2]
    have hz' : (s2.toList == ([] : List UInt8)) = false := by rw [hz, beq_eq_false_iff_ne]; exact h0
    clear h0 e1 e2 hz
    go_enter Try.func44, Try.ntmps44
    go_wp2_with fail
    go_ret
    exact ⟨rfl, rfl⟩
end Go.Proofs.Ytkndnlhlglgmfaa
