import Derived.Test.YtaahffminoekfaaDoorA5
namespace Go.Proofs.YtaahffminoekfaaDoor
open Go.RowKit
set_option maxRecDepth 100000 in
theorem new_any (w : World) (hla : Laid w) :
    Calls Tryd.prog 24 #[] w fun e w' => e = .returned (.pointer (some ⟨w.heap.size, 0, none⟩)) ∧ w' = w.alloc (.cells (stcells beginSt ++ #[.slice none 0 0, .int .i64 0]) 86) := by
  have c0 := hla.beg 0 (by decide)
  have c1 := hla.beg 1 (by decide)
  have c2 := hla.beg 2 (by decide)
  have c3 := hla.beg 3 (by decide)
  have c4 := hla.beg 4 (by decide)
  have c5 := hla.beg 5 (by decide)
  have c6 := hla.beg 6 (by decide)
  have c7 := hla.beg 7 (by decide)
  clear hla
  go_enter Tryd.func24, Tryd.ntmps24
  go_wp2
  go_ret
  exact ⟨rfl, rfl⟩
theorem dig_new (w : World) : Dig (w.alloc (.cells (stcells beginSt ++ #[.slice none 0 0, .int .i64 0]) 86)) w.heap.size w.heap.size [] (.slice none 0 0) :=
  ⟨by rw [heap_alloc_last, show ([] : List Int).length / 64 = 0 from rfl, stN_zero]; rfl, World.ownsRow_nil _ _ _ _, Nat.le_refl _⟩
set_option maxRecDepth 100000 in
theorem len_any (base p : Nat) (l : List Int) (rv : Value) (w : World) (hd : Dig w base p l rv) :
    Calls Tryd.prog 27 #[.pointer (some ⟨p, 0, none⟩)] w fun e w' => e = .returned (.int .i64 (l.length : Int)) ∧ w' = w := by
  have c9 : w.cell? ⟨p, 9, none⟩ = some (.int .i64 (l.length : Int)) := cell_of_row w p 9 _ _ _ hd.cells
  clear hd
  go_enter Tryd.func27, Tryd.ntmps27
  go_wp2
  go_ret
  exact ⟨rfl, rfl⟩
def CopyPost (l : List Int) (w : World) (e : Ending) (w' : World) : Prop :=
  ∃ q rv, e = .returned (.pointer (some ⟨q, 0, none⟩)) ∧ Dig w' w.heap.size q l rv ∧ Below w.heap.size w w'
theorem own_src {w : World} {base n : Nat} {v : Value} {xs : List Int} (h : w.ownsRow base 5 1 v n (u8s xs)) : SlB w v xs := by
  have hl : xs.length = n := by have := h.1; rw [u8s_len] at this; omega
  subst hl
  rcases h.2 with ⟨rfl, h0⟩ | ⟨g, cap, cur, rfl, _, hg, h1, h2, _⟩
  · obtain rfl : xs = [] := List.eq_nil_of_length_eq_zero h0
    exact .inl ⟨rfl, rfl, rfl⟩
  · exact .inr ⟨⟨g, 0, none⟩, cap, rfl, by rw [u8s_len]; omega, h1, by simpa [maxLen] using h2, fun j u hu => h.cells rfl j u hu⟩
set_option maxRecDepth 100000 in
theorem copy_any (base p : Nat) (l : List Int) (rv : Value) (w : World) (hd : Dig w base p l rv) :
    Calls Tryd.prog 28 #[.pointer (some ⟨p, 0, none⟩)] w (CopyPost l w) := by
  have hr : ∀ j, (stcells (stN l (l.length / 64)) ++ #[rv, .int .i64 (l.length : Int)])[j]? = w.cell? ⟨p, j, none⟩ := fun j => (cell_of_row w p j _ _ _ hd.cells).symm
  obtain ⟨s, hs⟩ : ∃ s, stN l (l.length / 64) = s := ⟨_, rfl⟩
  rw [hs] at hr
  have c0 : w.cell? ⟨p, 0, none⟩ = some (.int .u32 s.a) := (hr 0).symm
  have c1 : w.cell? ⟨p, 1, none⟩ = some (.int .u32 s.b) := (hr 1).symm
  have c2 : w.cell? ⟨p, 2, none⟩ = some (.int .u32 s.c) := (hr 2).symm
  have c3 : w.cell? ⟨p, 3, none⟩ = some (.int .u32 s.d) := (hr 3).symm
  have c4 : w.cell? ⟨p, 4, none⟩ = some (.int .u32 s.e) := (hr 4).symm
  have c5 : w.cell? ⟨p, 5, none⟩ = some (.int .u32 s.f) := (hr 5).symm
  have c6 : w.cell? ⟨p, 6, none⟩ = some (.int .u32 s.g) := (hr 6).symm
  have c7 : w.cell? ⟨p, 7, none⟩ = some (.int .u32 s.h) := (hr 7).symm
  have c8 : w.cell? ⟨p, 8, none⟩ = some rv := (hr 8).symm
  have c9 : w.cell? ⟨p, 9, none⟩ = some (.int .i64 (l.length : Int)) := (hr 9).symm
  obtain ⟨R, rc, rfl⟩ := own_shape hd.row
  have hps : p < w.heap.size := (Array.getElem?_eq_some_iff.1 hd.cells).1
  have HS := Lib.hid hs
  have HD := Lib.hid hd
  clear hs hd hr
  go_enter Tryd.func28, Tryd.ntmps28
  go_wp2_with fail
  obtain ⟨W1, hW1⟩ : ∃ W1, W1 = w.alloc (.cells (stcells s ++ #[.slice R (l.length % 64) rc, .int .i64 (l.length : Int)]) 86) := ⟨_, rfl⟩
  have hsrc : SlB W1 (.slice R (l.length % 64) rc) (restOf l) := by
    rw [hW1]; exact (own_src HD.out.row).chg ((Chg.refl (fun _ => False) w).alloc _) (fun _ _ _ h => h) (by decide)
  have hgoal := clone_any (.slice R (l.length % 64) rc) (restOf l) W1 hsrc (by unfold Room; rw [restOf_len]; omega)
  rw [hW1] at hgoal
  clear hsrc hW1
  refine hgoal.mono ?_
  clear hgoal
  rintro e w' ⟨v', rfl, ho, hb, hn⟩
  have hp1 : w'.heap[w.heap.size]? = some (.cells (stcells s ++ #[.slice R (l.length % 64) rc, .int .i64 (l.length : Int)]) 86 (0, 0)) := by
    rw [hb.block _ (by simp), heap_alloc_last]
  have d8 : w'.cell? ⟨w.heap.size, 8, none⟩ = some (.slice R (l.length % 64) rc) := cell_of_row w' _ 8 _ _ _ hp1
  have f8 : w'.frozen? ⟨w.heap.size, 8, none⟩ = false := frozen_of_row w' _ 8 _ _ hp1
  obtain ⟨A, c, rfl⟩ := own_shape ho
  have HO := Lib.hid ho
  have HB := Lib.hid hb
  have HP := Lib.hid hp1
  clear ho hb hn hp1
  go_wp2
  go_ret
  rw [restOf_len] at HO
  have hz : w.heap.size < (w.alloc (.cells (stcells s ++ #[.slice R (l.length % 64) rc, .int .i64 (l.length : Int)]) 86)).heap.size := by simp
  refine ⟨w.heap.size, .slice A (l.length % 64) c, by rw [restOf_len]; rfl, ⟨?_, ?_, Nat.le_refl _⟩, ?_⟩
  · rw [restOf_len, heap_setCell_same _ _ _ _ _ _ HP.out, HS.out]; rfl
  · have h1 := own_chg HO.out ((Chg.refl (· = w.heap.size) w').setCell ⟨w.heap.size, 8, none⟩ (.inl rfl) (.slice A (restOf l).length c)) (fun k hk he => by have := (HO.out.lt k hk).1; omega)
    refine ⟨h1.1, ?_⟩
    rcases h1.2 with h | ⟨g, cap, cur, he, hb, hr⟩
    · exact .inl h
    · exact .inr ⟨g, cap, cur, he, by omega, hr⟩
  · exact ((((Chg.refl (fun k => w.heap.size ≤ k) w).alloc _).then (Chg.of_below HB.out (fun _ => False)) (fun _ h => h.elim)).setCell ⟨w.heap.size, 8, none⟩ (.inl (Nat.le_refl _)) _).below (Nat.le_refl _) (fun _ h => h)
end Go.Proofs.YtaahffminoekfaaDoor
