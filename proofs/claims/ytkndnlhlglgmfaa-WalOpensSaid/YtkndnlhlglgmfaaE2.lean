/-
  A disk in memory; what tells of it, and its small methods, walked.
-/
import Derived.Test.YtkndnlhlglgmfaaE1
import Derived.Test.YtkndnlhlglgmfaaGX
import Derived.Test.YtkndnlhlglgmfaaMT
namespace Go.Proofs.Ytkndnlhlglgmfaa
open Go.RowKit
abbrev Up (w w' : World) : Prop := Chg (fun _ => False) w w'
def Bytes (l : List Int) : Prop := ∀ j, 0 ≤ l.getD j 0 ∧ l.getD j 0 ≤ 255
/-- A row of bytes that nobody writes any more. -/
def DatB (w : World) (d : Value) (xs : List Int) : Prop := w.ownsRow 0 5 1 d xs.length (u8s xs)
/-- A disk: what stands, what is cached, how many commands are left, how many are done, is the power down. -/
structure Dk where
  size : Nat
  has : List (List Int)
  ca : Int → Option (List Int)
  left : Int
  done : Int
  down : Bool
structure DiskAt (w : World) (p b m : Nat) (sv : Value) (ss : List Value) (C : Int → Option Value) (x : Dk) : Prop where
  obj : w.heap[p]? = some (.cells #[.int .i64 x.size, sv, .map (some b), .int .i64 x.left, .int .i64 x.done, .bool x.down] 81 (0, 0))
  row : w.ownsRow 0 28 1 sv ss.length ss
  len : ss.length = x.has.length
  sec : ∀ j, j < x.has.length → DatB w (ss.getD j undef) (x.has.getD j [])
  map : CacheAt w b m C
  key : ∀ i v, C i = some v → 0 ≤ i ∧ i < x.has.length ∧ ∃ xs, x.ca i = some xs ∧ DatB w v xs
  non : ∀ i, C i = none → x.ca i = none
theorem own_chg' {S : Nat → Prop} {w w' : World} {base n : Nat} {e : TypeId} {size : Nat} {v : Value} {xs : List Value} (h : w.ownsRow base e size v n xs) (hc : Chg S w w') (hS : ∀ k cur fr, S k → w.heap[k]? ≠ some (.cells cur e fr)) : w'.ownsRow base e size v n xs := by
  refine own_chg h hc fun k hk hs => ?_
  rcases h.2 with ⟨rfl, _⟩ | ⟨g, cap, cur, rfl, _, hg, _⟩
  · simp [Value.ownBlock] at hk
  · obtain rfl : g = k := by simpa [Value.ownBlock] using hk
    exact hS g _ _ hs hg
theorem own_type {W : World} {base n s : Nat} {e : TypeId} {v : Value} {xs : List Value} (h : W.ownsRow base e s v n xs) (g : Nat) (hg : v.ownBlock = some g) : ∃ cur fr, W.heap[g]? = some (.cells cur e fr) := by
  rcases h.2 with ⟨rfl, _⟩ | ⟨g', cap, cur, rfl, _, hh, _⟩
  · simp [Value.ownBlock] at hg
  · obtain rfl : g' = g := by simpa [Value.ownBlock] using hg
    exact ⟨_, _, hh⟩
theorem own_shape {W : World} {base n : Nat} {e : TypeId} {s : Nat} {v : Value} {xs : List Value} (h : W.ownsRow base e s v n xs) : ∃ A c, v = .slice A n c := by
  rcases h.2 with ⟨rfl, h0⟩ | ⟨g, cap, cur, rfl, _⟩
  · rw [h0]; exact ⟨none, 0, rfl⟩
  · exact ⟨_, cap, rfl⟩
theorem own_base {W : World} {base base' n s : Nat} {e : TypeId} {v : Value} {xs : List Value} (h : W.ownsRow base e s v n xs) (hb : base' ≤ base) : W.ownsRow base' e s v n xs := by
  refine ⟨h.1, ?_⟩
  rcases h.2 with hn | ⟨g, cap, cur, rfl, hb1, hrest⟩
  · exact .inl hn
  · exact .inr ⟨g, cap, cur, rfl, by omega, hrest⟩
theorem up_below {a b : World} (h : Below a.heap.size a b) : Up a b := Chg.of_below h _
/-- The disk stays where what is turned is not its own, nor bytes. -/
theorem DiskAt.chg {S : Nat → Prop} {w w' : World} {p b m : Nat} {sv : Value} {ss : List Value} {C : Int → Option Value} {x : Dk} (h : DiskAt w p b m sv ss C x) (hc : Chg S w w') (hp : ¬ S p) (hb : ¬ S b) (hs : ∀ k, sv.ownBlock = some k → ¬ S k) (h5 : ∀ k cur fr, S k → w.heap[k]? ≠ some (.cells cur 5 fr)) : DiskAt w' p b m sv ss C x :=
  ⟨hc.heap h.obj hp, own_chg h.row hc hs, h.len, fun j hj => own_chg' (h.sec j hj) hc h5, h.map.chg hc hb, fun i v hv => by
    obtain ⟨h1, h2, xs, h3, h4⟩ := h.key i v hv
    exact ⟨h1, h2, xs, h3, own_chg' h4 hc h5⟩, h.non⟩
theorem DiskAt.up {w w' : World} {p b m : Nat} {sv : Value} {ss : List Value} {C : Int → Option Value} {x : Dk} (h : DiskAt w p b m sv ss C x) (hu : Up w w') : DiskAt w' p b m sv ss C x := h.chg hu (fun h => h) (fun h => h) (fun _ _ h => h) (fun _ _ _ h => h.elim)
/-- Only the disk's own numbers turn. -/
theorem DiskAt.nums {w : World} {p b m : Nat} {sv : Value} {ss : List Value} {C : Int → Option Value} {x : Dk} (h : DiskAt w p b m sv ss C x) {w' : World} (hc : Chg (fun i => i = p) w w') (l d : Int) (dn : Bool) (ho : w'.heap[p]? = some (.cells #[.int .i64 x.size, sv, .map (some b), .int .i64 l, .int .i64 d, .bool dn] 81 (0, 0))) : DiskAt w' p b m sv ss C { x with left := l, done := d, down := dn } := by
  have hpb : p ≠ b := fun e => by
    obtain ⟨es, cl, hh⟩ := h.map.block
    rw [← e, h.obj] at hh; cases hh
  refine ⟨ho, own_chg h.row hc (fun k hk e => ?_), h.len, fun j hj => own_chg' (h.sec j hj) hc (fun k cur fr e hh => ?_), h.map.chg hc (fun e => hpb e.symm), fun i v hv => ?_, h.non⟩
  · subst e
    obtain ⟨c2, f2, hh⟩ := own_type h.row k hk
    rw [h.obj] at hh; cases hh
  · subst e; rw [h.obj] at hh; cases hh
  · obtain ⟨h1, h2, xs, h3, h4⟩ := h.key i v hv
    exact ⟨h1, h2, xs, h3, own_chg' h4 hc (fun k cur fr e hh => by subst e; rw [h.obj] at hh; cases hh)⟩
section
variable {w : World} {p b m : Nat} {sv : Value} {ss : List Value} {C : Int → Option Value} {x : Dk}
theorem DiskAt.c0 (h : DiskAt w p b m sv ss C x) : w.cell? ⟨p, 0, none⟩ = some (.int .i64 x.size) := cell_of_row w p 0 _ _ _ h.obj
theorem DiskAt.c1 (h : DiskAt w p b m sv ss C x) : w.cell? ⟨p, 1, none⟩ = some sv := cell_of_row w p 1 _ _ _ h.obj
theorem DiskAt.c2 (h : DiskAt w p b m sv ss C x) : w.cell? ⟨p, 2, none⟩ = some (.map (some b)) := cell_of_row w p 2 _ _ _ h.obj
theorem DiskAt.c3 (h : DiskAt w p b m sv ss C x) : w.cell? ⟨p, 3, none⟩ = some (.int .i64 x.left) := cell_of_row w p 3 _ _ _ h.obj
theorem DiskAt.c4 (h : DiskAt w p b m sv ss C x) : w.cell? ⟨p, 4, none⟩ = some (.int .i64 x.done) := cell_of_row w p 4 _ _ _ h.obj
theorem DiskAt.c5 (h : DiskAt w p b m sv ss C x) : w.cell? ⟨p, 5, none⟩ = some (.bool x.down) := cell_of_row w p 5 _ _ _ h.obj
theorem DiskAt.fz (h : DiskAt w p b m sv ss C x) (i : Nat) : w.frozen? ⟨p, i, none⟩ = false := frozen_of_row w p i _ _ h.obj
end
set_option maxRecDepth 100000 in
set_option maxHeartbeats 4000000 in
theorem down_any (w : World) (p b m : Nat) (sv : Value) (ss : List Value) (C : Int → Option Value) (x : Dk) (h : DiskAt w p b m sv ss C x) : Calls Try.prog 15 #[.pointer (some ⟨p, 0, none⟩)] w (fun e w' => e = .returned (.bool x.down) ∧ w' = w) := by
  have c := h.c5
  clear h
  go_enter Try.func15, Try.ntmps15
  go_wp2_with fail
  go_ret
  exact ⟨rfl, rfl⟩
set_option maxRecDepth 100000 in
set_option maxHeartbeats 4000000 in
theorem done_any (w : World) (p b m : Nat) (sv : Value) (ss : List Value) (C : Int → Option Value) (x : Dk) (h : DiskAt w p b m sv ss C x) : Calls Try.prog 19 #[.pointer (some ⟨p, 0, none⟩)] w (fun e w' => e = .returned (.int .i64 x.done) ∧ w' = w) := by
  have c := h.c4
  clear h
  go_enter Try.func19, Try.ntmps19
  go_wp2_with fail
  go_ret
  exact ⟨rfl, rfl⟩
set_option maxRecDepth 100000 in
set_option maxHeartbeats 4000000 in
theorem size_any (w : World) (p b m : Nat) (sv : Value) (ss : List Value) (C : Int → Option Value) (x : Dk) (h : DiskAt w p b m sv ss C x) : Calls Try.prog 58 #[.pointer (some ⟨p, 0, none⟩)] w (fun e w' => e = .returned (.int .i64 x.size) ∧ w' = w) := by
  have c := h.c0
  clear h
  go_enter Try.func58, Try.ntmps58
  go_wp2_with fail
  go_ret
  exact ⟨rfl, rfl⟩
set_option maxRecDepth 100000 in
set_option maxHeartbeats 4000000 in
theorem arm_any (w : World) (p b m : Nat) (sv : Value) (ss : List Value) (C : Int → Option Value) (x : Dk) (h : DiskAt w p b m sv ss C x) (n : Int) : Calls Try.prog 14 #[.pointer (some ⟨p, 0, none⟩), .int .i64 n] w (fun e w' => (∃ v, e = .returned v) ∧ DiskAt w' p b m sv ss C { x with left := max n (-1) } ∧ Chg (fun i => i = p) w w') := by
  have c3 := h.c3
  have f3 := h.fz 3
  have H := Lib.hid h
  clear h
  by_cases h1 : -1 ≤ n
  · rw [show max n (-1) = n by omega]
    go_enter Try.func14, Try.ntmps14
    go_wp2_with fail
    go_end0
    have hc : Chg (fun i => i = p) w (w.setCell ⟨p, 3, none⟩ (.int .i64 n)) := (Chg.refl (fun i => i = p) w).setCell ⟨p, 3, none⟩ (.inl rfl) _
    exact ⟨⟨_, rfl⟩, H.out.nums hc n x.done x.down (by rw [heap_setCell_same w p 3 _ _ _ H.out.obj]; rfl), hc⟩
  · rw [show max n (-1) = -1 by omega]
    have h1' : n < -1 := by omega
    go_enter Try.func14, Try.ntmps14
    go_wp2_with fail
    go_end0
    have hc : Chg (fun i => i = p) w (w.setCell ⟨p, 3, none⟩ (.int .i64 (-1))) := (Chg.refl (fun i => i = p) w).setCell ⟨p, 3, none⟩ (.inl rfl) _
    exact ⟨⟨_, rfl⟩, H.out.nums hc (-1) x.done x.down (by rw [heap_setCell_same w p 3 _ _ _ H.out.obj]; rfl), hc⟩
/-- What 'check' answers. -/
def checkI (x : Dk) (i : Int) (n : Nat) : Int := if i < 0 ∨ (x.has.length : Int) ≤ i then 11 else if n ≠ x.size then 10 else 0
set_option maxRecDepth 100000 in
set_option maxHeartbeats 4000000 in
theorem check_any (w : World) (p b m : Nat) (sv : Value) (ss : List Value) (C : Int → Option Value) (x : Dk) (h : DiskAt w p b m sv ss C x) (i : Int) (d : Value) (xs : List Int) (hd : SlB w d xs) : Calls Try.prog 49 #[.pointer (some ⟨p, 0, none⟩), .int .i64 i, d] w (fun e w' => e = .returned (.int .i64 (checkI x i xs.length)) ∧ w' = w) := by
  obtain ⟨A, c, rfl, _, _⟩ := hd.shape
  obtain ⟨As, cs, rfl⟩ := own_shape h.row
  have c0 := h.c0
  have c1 := h.c1
  have hl := h.len
  rw [hl] at c1
  clear h hd hl
  unfold checkI
  by_cases h1 : i < 0
  · rw [if_pos (.inl h1)]
    go_enter Try.func49, Try.ntmps49
    go_wp2_with fail
    go_ret
    exact ⟨rfl, rfl⟩
  by_cases h2 : (x.has.length : Int) ≤ i
  · rw [if_pos (.inr h2)]
    go_enter Try.func49, Try.ntmps49
    go_wp2_with fail
    go_ret
    exact ⟨rfl, rfl⟩
  rw [if_neg (by omega)]
  by_cases h3 : xs.length ≠ x.size
  · have h3' : ((xs.length : Int) != (x.size : Int)) = true := by rw [bne_iff_ne]; omega
    rw [if_pos h3]
    go_enter Try.func49, Try.ntmps49
    go_wp2_with fail
    go_ret
    exact ⟨rfl, rfl⟩
  · have h3' : ((xs.length : Int) != (x.size : Int)) = false := by rw [bne_eq_false_iff_eq]; omega
    rw [if_neg h3]
    go_enter Try.func49, Try.ntmps49
    go_wp2_with fail
    go_ret
    exact ⟨rfl, rfl⟩
/-- One command. -/
def commI (x : Dk) : Dk × Int := if x.left = 0 then ({ x with down := true }, 30) else ({ x with left := max (x.left - 1) (-1), done := x.done + 1 }, 0)
set_option maxRecDepth 100000 in
set_option maxHeartbeats 4000000 in
theorem command_any (w : World) (p b m : Nat) (sv : Value) (ss : List Value) (C : Int → Option Value) (x : Dk) (h : DiskAt w p b m sv ss C x) (hl : -1 ≤ x.left ∧ x.left ≤ 9223372036854775807) (hd : 0 ≤ x.done ∧ x.done ≤ 1000000) : Calls Try.prog 51 #[.pointer (some ⟨p, 0, none⟩)] w (fun e w' => e = .returned (.int .i64 (commI x).2) ∧ DiskAt w' p b m sv ss C (commI x).1 ∧ Chg (fun i => i = p) w w') := by
  have c3 := h.c3
  have c4 := h.c4
  have c5 := h.c5
  have f3 := h.fz 3
  have f4 := h.fz 4
  have f5 := h.fz 5
  have H := Lib.hid h
  obtain ⟨hl1, hl2⟩ := hl
  obtain ⟨hd1, hd2⟩ := hd
  clear h
  unfold commI
  by_cases h0 : x.left = 0
  · rw [if_pos h0]
    have h0' : (x.left == 0) = true := by rw [beq_iff_eq]; exact h0
    go_enter Try.func51, Try.ntmps51
    go_wp2_with fail
    go_ret
    have hc : Chg (fun i => i = p) w (w.setCell ⟨p, 5, none⟩ (.bool true)) := (Chg.refl (fun i => i = p) w).setCell ⟨p, 5, none⟩ (.inl rfl) _
    exact ⟨rfl, H.out.nums hc x.left x.done true (by rw [heap_setCell_same w p 5 _ _ _ H.out.obj]; rfl), hc⟩
  · have h0' : (x.left == 0) = false := by rw [beq_eq_false_iff_ne]; exact h0
    rw [if_neg h0]
    by_cases h1 : -1 ≤ x.left - 1
    · rw [show max (x.left - 1) (-1) = x.left - 1 by omega]
      go_enter Try.func51, Try.ntmps51
      go_wp2_with fail
      go_ret
      have hc : Chg (fun i => i = p) w ((w.setCell ⟨p, 3, none⟩ (.int .i64 (x.left - 1))).setCell ⟨p, 4, none⟩ (.int .i64 (x.done + 1))) := ((Chg.refl (fun i => i = p) w).setCell ⟨p, 3, none⟩ (.inl rfl) _).setCell ⟨p, 4, none⟩ (.inl rfl) _
      exact ⟨rfl, H.out.nums hc (x.left - 1) (x.done + 1) x.down (by rw [heap_setCell_same _ p 4 _ _ _ (heap_setCell_same w p 3 _ _ _ H.out.obj)]; rfl), hc⟩
    · rw [show max (x.left - 1) (-1) = -1 by omega]
      have h1' : x.left - 1 < -1 := by omega
      go_enter Try.func51, Try.ntmps51
      go_wp2_with fail
      go_ret
      have hc : Chg (fun i => i = p) w ((w.setCell ⟨p, 3, none⟩ (.int .i64 (-1))).setCell ⟨p, 4, none⟩ (.int .i64 (x.done + 1))) := ((Chg.refl (fun i => i = p) w).setCell ⟨p, 3, none⟩ (.inl rfl) _).setCell ⟨p, 4, none⟩ (.inl rfl) _
      exact ⟨rfl, H.out.nums hc (-1) (x.done + 1) x.down (by rw [heap_setCell_same _ p 4 _ _ _ (heap_setCell_same w p 3 _ _ _ H.out.obj)]; rfl), hc⟩
end Go.Proofs.Ytkndnlhlglgmfaa
