/-
  Nets: letters in a row of their own; New, Len, Sent, at, who, copied, walked.
-/
import Derived.Test.YtofmblkmfbioiaaA3
import Derived.Test.YtofmblkmfbioiaaMT
namespace Go.Proofs.Ytofmblkmfbioiaa
open Go.RowKit
abbrev Up (w w' : World) : Prop := Chg (fun _ => False) w w'
def Bytes (l : List Int) : Prop := ∀ j, 0 ≤ l.getD j 0 ∧ l.getD j 0 ≤ 255
/-- A letter: from, to, what it says. -/
abbrev Let := Int × Int × List Int
def letC (x : Let) (d : Value) : List Value := [.int .i64 x.1, .int .i64 x.2.1, d]
def rowC (ls : List Let) (ds : List Value) : List Value := (List.zipWith letC ls ds).flatten
/-- Bytes that lie in a block of their own. -/
def DatB (w : World) (d : Value) (xs : List Int) : Prop := w.ownsRow 0 5 1 d xs.length (u8s xs)
structure NetAt (w : World) (p : Nat) (lv : Value) (ds : List Value) (ls : List Let) (sent : Int) : Prop where
  obj : w.heap[p]? = some (.cells #[lv, .int .i64 sent] 57 (0, 0))
  len : ds.length = ls.length
  row : w.ownsRow 0 29 3 lv ls.length (rowC ls ds)
  dat : ∀ j, j < ls.length → DatB w (ds.getD j undef) (ls.getD j default).2.2
theorem DatB.chg {S : Nat → Prop} {w w' : World} {d : Value} {xs : List Int} (h : DatB w d xs) (hc : Chg S w w') (hS : ∀ k cur fr, S k → w.heap[k]? ≠ some (.cells cur 5 fr)) : DatB w' d xs := by
  refine own_chg h hc fun k hk hs => ?_
  rcases h.2 with ⟨rfl, _⟩ | ⟨g, cap, cur, rfl, _, hg, _⟩
  · simp [Value.ownBlock] at hk
  · obtain rfl : g = k := by simpa [Value.ownBlock] using hk
    exact hS g _ _ hs hg
theorem NetAt.chg {S : Nat → Prop} {w w' : World} {p : Nat} {lv : Value} {ds : List Value} {ls : List Let} {sent : Int} (h : NetAt w p lv ds ls sent) (hc : Chg S w w') (hp : ¬ S p) (hl : ∀ k, lv.ownBlock = some k → ¬ S k) (hS : ∀ k cur fr, S k → w.heap[k]? ≠ some (.cells cur 5 fr)) : NetAt w' p lv ds ls sent :=
  ⟨hc.heap h.obj hp, h.len, own_chg h.row hc hl, fun j hj => (h.dat j hj).chg hc hS⟩
theorem NetAt.up {w w' : World} {p : Nat} {lv : Value} {ds : List Value} {ls : List Let} {sent : Int} (h : NetAt w p lv ds ls sent) (hu : Up w w') : NetAt w' p lv ds ls sent := h.chg hu (fun h => h) (fun _ _ h => h) (fun _ _ _ h => h.elim)
theorem NetAt.shape {w : World} {p : Nat} {lv : Value} {ds : List Value} {ls : List Let} {sent : Int} (h : NetAt w p lv ds ls sent) : ∃ A c, lv = .slice A ls.length c ∧ ls.length ≤ c ∧ c ≤ 9223372036854775807 := by
  rcases h.row.2 with ⟨rfl, h0⟩ | ⟨g, cap, cur, rfl, _, _, h1, h2, _⟩
  · rw [h0]; exact ⟨none, 0, rfl, by omega, by omega⟩
  · exact ⟨_, cap, rfl, h1, by simpa [maxLen] using h2⟩
theorem NetAt.c0 {w : World} {p : Nat} {lv : Value} {ds : List Value} {ls : List Let} {sent : Int} (h : NetAt w p lv ds ls sent) : w.cell? ⟨p, 0, none⟩ = some lv := cell_of_row w p 0 _ _ _ h.obj
theorem NetAt.c1 {w : World} {p : Nat} {lv : Value} {ds : List Value} {ls : List Let} {sent : Int} (h : NetAt w p lv ds ls sent) : w.cell? ⟨p, 1, none⟩ = some (.int .i64 sent) := cell_of_row w p 1 _ _ _ h.obj
set_option maxRecDepth 100000 in
theorem new_any (w : World) : Calls Try.prog 9 #[] w (fun e w' => e = .returned (.pointer (some ⟨w.heap.size, 0, none⟩)) ∧ w' = w.alloc (.cells #[.slice none 0 0, .int .i64 0] 57)) := by
  go_enter Try.func9, Try.ntmps9
  go_wp2
  go_ret
  exact ⟨rfl, rfl⟩
set_option maxRecDepth 100000 in
theorem len_any (w : World) (p : Nat) (lv : Value) (ds : List Value) (ls : List Let) (sent : Int) (h : NetAt w p lv ds ls sent) : Calls Try.prog 12 #[.pointer (some ⟨p, 0, none⟩)] w (fun e w' => e = .returned (.int .i64 ls.length) ∧ w' = w) := by
  obtain ⟨A, c, rfl, h1, h2⟩ := h.shape
  have c0 := h.c0
  clear h
  go_enter Try.func12, Try.ntmps12
  go_wp2
  go_ret
  exact ⟨rfl, rfl⟩
set_option maxRecDepth 100000 in
theorem sent_any (w : World) (p : Nat) (lv : Value) (ds : List Value) (ls : List Let) (sent : Int) (h : NetAt w p lv ds ls sent) : Calls Try.prog 13 #[.pointer (some ⟨p, 0, none⟩)] w (fun e w' => e = .returned (.int .i64 sent) ∧ w' = w) := by
  have c1 := h.c1
  clear h
  go_enter Try.func13, Try.ntmps13
  go_wp2
  go_ret
  exact ⟨rfl, rfl⟩
/-- Is there a letter at a place? -/
def atI (ls : List Let) (i : Int) : Bool := decide (0 ≤ i) && decide (i < ls.length)
set_option maxRecDepth 100000 in
theorem at_any (w : World) (p : Nat) (lv : Value) (ds : List Value) (ls : List Let) (sent i : Int) (h : NetAt w p lv ds ls sent) : Calls Try.prog 26 #[.pointer (some ⟨p, 0, none⟩), .int .i64 i] w (fun e w' => e = .returned (.int .i64 (if atI ls i then 0 else 11)) ∧ w' = w) := by
  obtain ⟨A, c, rfl, h1, h2⟩ := h.shape
  have c0 := h.c0
  clear h
  obtain ⟨r, hr⟩ : ∃ r : Int, (if atI ls i then (0 : Int) else 11) = r := ⟨_, rfl⟩
  rw [hr]
  have HR := Lib.hid hr
  clear hr
  go_enter Try.func26, Try.ntmps26
  by_cases h0 : 0 ≤ i
  · by_cases h3 : i < ls.length
    · go_wp2
      go_ret
      exact ⟨by rw [← HR.out]; simp [atI, h0, h3], rfl⟩
    · go_wp2
      go_ret
      exact ⟨by rw [← HR.out]; simp [atI, h3], rfl⟩
  · go_wp2
    go_ret
    exact ⟨by rw [← HR.out]; simp [atI]; omega, rfl⟩
def whoI (n : Int) : Bool := decide (0 ≤ n) && decide (n ≤ 63)
set_option maxRecDepth 100000 in
theorem who_any (w : World) (n : Int) : Calls Try.prog 24 #[.int .i64 n] w (fun e w' => e = .returned (.bool (whoI n)) ∧ w' = w) := by
  unfold whoI
  go_enter Try.func24, Try.ntmps24
  by_cases h0 : 0 ≤ n
  · by_cases h3 : n ≤ 63
    · go_wp2
      go_ret
      exact ⟨by simp [h0, h3], rfl⟩
    · go_wp2
      go_ret
      exact ⟨by simp [h0, h3], rfl⟩
  · go_wp2
    go_ret
    exact ⟨by simp [show decide (0 ≤ n) = false by simpa using h0], rfl⟩
/-- What 'copied' answers. -/
def CopPost (f t : Int) (xs : List Int) (w : World) (e : Ending) (w' : World) : Prop :=
  ∃ d', e = .returned (.agg #[.int .i64 f, .int .i64 t, d']) ∧ w'.ownsRow w.heap.size 5 1 d' xs.length (u8s xs) ∧ Below w.heap.size w w'
set_option maxRecDepth 100000 in
set_option maxHeartbeats 1000000 in
theorem copied_any (w : World) (f t : Int) (d : Value) (xs : List Int) (h : SlB w d xs) (hn : xs.length ≤ 1000000) : Calls Try.prog 29 #[.agg #[.int .i64 f, .int .i64 t, d]] w (CopPost f t xs w) := by
  obtain ⟨A, c, rfl, _, _⟩ := h.shape
  obtain ⟨W0, hW0⟩ : ∃ W0, W0 = (w.alloc (.cells #[.int .i64 f, .int .i64 t, .slice A xs.length c] 29)).alloc (.cells #[.int .i64 0, .int .i64 0, .slice none 0 0] 29) := ⟨_, rfl⟩
  have hu0 : Up w W0 := by rw [hW0]; exact ((Chg.refl _ w).alloc _).alloc _
  have hcl := clone_any (.slice A xs.length c) xs W0 (Src.chg h hu0 (fun _ _ _ h => h) (by decide)) (by unfold Room; omega)
  have hx0 : W0.heap[w.heap.size]? = some (.cells #[.int .i64 f, .int .i64 t, .slice A xs.length c] 29 (0, 0)) := by rw [hW0]; exact (Below.heap_alloc _ _ _ (by simp)).trans (heap_alloc_last _ _)
  have hr0 : W0.heap[w.heap.size + 1]? = some (.cells #[.int .i64 0, .int .i64 0, .slice none 0 0] 29 (0, 0)) := by
    rw [hW0]; have := heap_alloc_last (w.alloc (.cells #[.int .i64 f, .int .i64 t, .slice A xs.length c] 29)) (.cells #[.int .i64 0, .int .i64 0, .slice none 0 0] 29); rwa [World.size_alloc] at this
  have HX0 := Lib.hid hx0
  have HR0 := Lib.hid hr0
  have HCL := Lib.hid hcl
  have HW := Lib.hid hW0
  have HU := Lib.hid hu0
  have hwz : w.heap.size + 1 < W0.heap.size := (Array.getElem?_eq_some_iff.1 hr0).1
  clear h hcl hW0 hu0 hx0 hr0
  go_enter Try.func29, Try.ntmps29
  go_wp2_with fail
  rw [← HW.out]
  refine HCL.out.mono ?_
  rintro e W2 ⟨d', rfl, ho, hb, _⟩
  obtain ⟨A', c', rfl⟩ : ∃ A c, d' = .slice A xs.length c := by
    rcases ho.2 with ⟨rfl, h0⟩ | ⟨g, cap, cur, rfl, _⟩
    · rw [h0]; exact ⟨none, 0, rfl⟩
    · exact ⟨_, cap, rfl⟩
  have hx2 := (Chg.of_below hb (fun _ => False)).heap HX0.out (fun h => h)
  have hr2 := (Chg.of_below hb (fun _ => False)).heap HR0.out (fun h => h)
  have a0 := cell_of_row W2 w.heap.size 0 _ _ _ hx2
  have a1 := cell_of_row W2 w.heap.size 1 _ _ _ hx2
  have a2 := cell_of_row W2 w.heap.size 2 _ _ _ hx2
  have b0 := cell_of_row W2 (w.heap.size + 1) 0 _ _ _ hr2
  have b1 := cell_of_row W2 (w.heap.size + 1) 1 _ _ _ hr2
  have b2 := cell_of_row W2 (w.heap.size + 1) 2 _ _ _ hr2
  have fz : ∀ k, W2.frozen? ⟨w.heap.size, k, none⟩ = false := fun k => by simp [World.frozen?, hx2]
  have fz2 : ∀ k, W2.frozen? ⟨w.heap.size + 1, k, none⟩ = false := fun k => by simp [World.frozen?, hr2]
  have HO := Lib.hid ho
  have HB := Lib.hid hb
  have HX2 := Lib.hid hx2
  have HR2 := Lib.hid hr2
  clear ho hb hx2 hr2 HX0 HR0 HCL HW
  go_wp2_with fail
  have g1 := (heap_setCell_other W2 ⟨w.heap.size, 2, none⟩ (w.heap.size + 1) (.slice A' xs.length c') (by simp)).trans HR2.out
  have g2 := heap_setCell_same _ (w.heap.size + 1) 0 _ _ (.int .i64 f) g1
  have g3 := heap_setCell_same _ (w.heap.size + 1) 1 _ _ (.int .i64 t) g2
  have g4 := heap_setCell_same _ (w.heap.size + 1) 2 _ _ (.slice A' xs.length c') g3
  refine bodyPost_ret (v := .agg #[.int .i64 f, .int .i64 t, .slice A' xs.length c']) (results_cell_row rfl _ _ (w.heap.size + 1) 29 _ (0, 0) _ (by rfl) g4 Try.underlying29 rfl (by kernel_rfl)) rfl ?_
  have hsz := HU.out.size
  have hch : Chg (fun i => w.heap.size ≤ i) w W2 := (HU.out.mono (fun _ _ h => h.elim)).then (Chg.of_below HB.out (fun _ => False)) (fun _ h => h.elim)
  have hall := (((hch.setCell ⟨w.heap.size, 2, none⟩ (.inl (Nat.le_refl _)) (.slice A' xs.length c')).setCell ⟨w.heap.size + 1, 0, none⟩ (.inl (by simp)) (.int .i64 f)).setCell ⟨w.heap.size + 1, 1, none⟩ (.inl (by simp)) (.int .i64 t)).setCell ⟨w.heap.size + 1, 2, none⟩ (.inl (by simp)) (.slice A' xs.length c')
  refine ⟨_, rfl, ?_, hall.below (Nat.le_refl _) (fun _ h => h)⟩
  have hfar : ∀ k, (Value.slice A' xs.length c').ownBlock = some k → w.heap.size + 1 < k := fun k hk => by have := (HO.out.lt k hk).1; omega
  have hc : Chg (fun i => i ≤ w.heap.size + 1) W2 ((((W2.setCell ⟨w.heap.size, 2, none⟩ (.slice A' xs.length c')).setCell ⟨w.heap.size + 1, 0, none⟩ (.int .i64 f)).setCell ⟨w.heap.size + 1, 1, none⟩ (.int .i64 t)).setCell ⟨w.heap.size + 1, 2, none⟩ (.slice A' xs.length c')) :=
    ((((Chg.refl _ W2).setCell _ (.inl (by simp)) _).setCell _ (.inl (by simp)) _).setCell _ (.inl (by simp)) _).setCell _ (.inl (by simp)) _
  have ho := own_chg HO.out hc (fun k hk h => by have := hfar k hk; omega)
  refine ⟨ho.1, ?_⟩
  rcases ho.2 with hn | ⟨g, cap, cur, he, hb1, hrest⟩
  · exact .inl hn
  · exact .inr ⟨g, cap, cur, he, by omega, hrest⟩
end Go.Proofs.Ytofmblkmfbioiaa
