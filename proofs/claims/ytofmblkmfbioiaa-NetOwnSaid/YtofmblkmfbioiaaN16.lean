/-
  A fixed answer: awake, walked.
-/
import Derived.Test.YtofmblkmfbioiaaN15
import Derived.Lib.SlBytesConst
namespace Go.Proofs.Ytofmblkmfbioiaa
open Go.RowKit
theorem net_new (w : World) : NetAt (w.alloc (.cells #[.slice none 0 0, .int .i64 0] 57)) w.heap.size (.slice none 0 0) [] [] 0 :=
  ⟨heap_alloc_last _ _, rfl, World.ownsRow_nil _ _ _ _, fun j hj => by simp at hj⟩
theorem one_slb (W : World) (b : Int) : SlB (W.alloc (.cells #[.int .u8 b] 5 (1, 2))) (.slice (some ⟨W.heap.size, 0, none⟩) 1 1) [b] :=
  SlB.mk rfl (by omega) (by omega) (fun j hj => by
    obtain rfl : j = 0 := by simpa using hj
    rw [cell_of_row _ _ _ _ _ _ (heap_alloc_last W _)]; rfl)
def TruePost (w : World) (e : Ending) (w' : World) : Prop := e = .returned (.bool true) ∧ Below w.heap.size w w'
set_option maxRecDepth 100000 in
set_option maxHeartbeats 4000000 in
theorem awake_any (w : World) : Calls Try.prog 8 #[] w (TruePost w) := by
  go_enter Try.func8, Try.ntmps8
  go_wp2_with fail
  refine (new_any w).mono ?_
  rintro e W0 ⟨rfl, rfl⟩
  have hn0 := net_new w
  obtain ⟨W1, hW1⟩ : ∃ W1, W1 = w.alloc (.cells #[.slice none 0 0, .int .i64 0] 57) := ⟨_, rfl⟩
  rw [← hW1] at hn0 ⊢
  have hc1 : Chg (fun i => w.heap.size ≤ i) w W1 := by rw [hW1]; exact (Chg.refl _ w).alloc _
  have HN0 := Lib.hid hn0
  have HC1 := Lib.hid hc1
  obtain ⟨p, hp⟩ : ∃ p, p = w.heap.size := ⟨_, rfl⟩
  rw [← hp] at HN0 ⊢
  have HP := Lib.hid hp
  clear hn0 hc1 hW1 hp
  have kc := fun (w : World) (C : Array Value) (n c : Nat) => Lib.run_convert_bytes_const (P := Try.prog) w 22 5 C n c Try.underlying22 Try.underlying5
  go_wp2_with fail
  have hs1 := send_any (W1.alloc (.cells #[.int .u8 97] 5 (1, 2))) p _ _ _ _ (HN0.out.up ((Chg.refl _ W1).alloc _)) (by omega) (by omega) 1 2 _ [97] (one_slb W1 97) (by simp)
  rw [show sendI [] (1, 2, [97]) = 0 by decide] at hs1
  have HS1 := Lib.hid hs1
  clear hs1
  refine HS1.out.mono ?_
  rintro e W2 ⟨rfl, hr⟩
  obtain ⟨_, lv2, d2, hn2, hc2, hb2⟩ := hr.resolve_left (fun h => h.1 rfl)
  have HN2 : Hid (NetAt W2 p lv2 [d2] [(1, 2, [97])] 1) := Lib.hid hn2
  have HC2 := Lib.hid (show Chg (fun i => w.heap.size ≤ i) w W2 from (HC1.out.alloc _).then hc2 (fun i hi => by
    rcases hi with hi | hi
    · exact .inr (by have := HP.out; omega)
    · simp [Value.ownBlock] at hi))
  have HB2 := Lib.hid (show ∀ k, lv2.ownBlock = some k → w.heap.size ≤ k from fun k hk => by
    rcases hb2 with hb | ⟨g, hb, hge⟩
    · rw [hb] at hk; simp [Value.ownBlock] at hk
    · rw [hb] at hk; injection hk with hk; have h1 := HC1.out.size; simp at hge; omega)
  clear hr hn2 hc2 hb2 HS1 HN0
  go_wp2_with fail
  have hs3 := send_any (W2.alloc (.cells #[.int .u8 98] 5 (1, 2))) p _ _ _ _ (HN2.out.up ((Chg.refl _ W2).alloc _)) (by omega) (by omega) 2 1 _ [98] (one_slb W2 98) (by simp)
  rw [show sendI [(1, 2, [97])] (2, 1, [98]) = 0 by decide] at hs3
  have HS3 := Lib.hid hs3
  clear hs3
  refine HS3.out.mono ?_
  rintro e W3 ⟨rfl, hr⟩
  obtain ⟨_, lv3, d3, hn3, hc3, hb3⟩ := hr.resolve_left (fun h => h.1 rfl)
  have HN3 : Hid (NetAt W3 p lv3 [d2, d3] [(1, 2, [97]), (2, 1, [98])] 2) := Lib.hid hn3
  have HC3 := Lib.hid (show Chg (fun i => w.heap.size ≤ i) w W3 from (HC2.out.alloc _).then hc3 (fun i hi => by
    rcases hi with hi | hi
    · exact .inr (by have := HP.out; omega)
    · exact .inr (HB2.out i hi)))
  have HB3 := Lib.hid (show ∀ k, lv3.ownBlock = some k → w.heap.size ≤ k from fun k hk => by
    rcases hb3 with hb | ⟨g, hb, hge⟩
    · rw [hb] at hk; exact HB2.out k hk
    · rw [hb] at hk; injection hk with hk; have h1 := HC2.out.size; simp at hge; omega)
  clear hr hn3 hc3 hb3 HS3 HN2 HC2 HB2
  go_wp2_with fail
  have hs4 := twice_any W3 p _ _ _ _ 0 HN3.out (fun j hj => by
    have : j = 0 ∨ j = 1 := by simp at hj; omega
    rcases this with rfl | rfl <;> decide)
  rw [show twiceI [(1, 2, [97]), (2, 1, [98])] 0 = 0 by decide] at hs4
  have HS4 := Lib.hid hs4
  clear hs4
  refine HS4.out.mono ?_
  rintro e W4 ⟨rfl, hr⟩
  obtain ⟨_, lv4, d4, hn4, hc4, hb4⟩ := hr.resolve_left (fun h => h.1 rfl)
  have HN4 : Hid (NetAt W4 p lv4 [d2, d3, d4] [(1, 2, [97]), (2, 1, [98]), (1, 2, [97])] 2) := Lib.hid hn4
  have HC4 := Lib.hid (show Chg (fun i => w.heap.size ≤ i) w W4 from HC3.out.then hc4 (fun i hi => by
    rcases hi with hi | hi
    · exact .inr (by have := HP.out; omega)
    · exact .inr (HB3.out i hi)))
  have HB4 := Lib.hid (show ∀ k, lv4.ownBlock = some k → w.heap.size ≤ k from fun k hk => by
    rcases hb4 with hb | ⟨g, hb, hge⟩
    · rw [hb] at hk; exact HB3.out k hk
    · rw [hb] at hk; injection hk with hk; have h1 := HC3.out.size; omega)
  clear hr hn4 hc4 hb4 HS4 HN3 HC3 HB3
  have hl4 := len_any W4 p _ _ _ _ HN4.out
  have ht4 : Calls Try.prog 23 #[.pointer (some ⟨p, 0, none⟩), .int .i64 1] W4 (fun e w' => ∃ A c lv5, e = .returned (.tuple #[.agg #[.int .i64 2, .int .i64 1, .slice A 1 c], .int .i64 0]) ∧ DatB w' (.slice A 1 c) [98] ∧ NetAt w' p lv5 [d2, d4] [(1, 2, [97]), (1, 2, [97])] 2 ∧ Chg (fun j => j = p ∨ lv4.ownBlock = some j) W4 w') :=
    (take_any W4 p _ _ _ _ 1 HN4.out (by simp)).mono (fun e w' h => by
      rcases h with ⟨ha, _⟩ | ⟨_, d5, he, hd5, lv5, hn5, _, hc5⟩
      · exact absurd ha (by decide)
      · obtain ⟨A5, c5, rfl⟩ := own_shape hd5
        exact ⟨A5, c5, lv5, he, hd5, hn5, hc5⟩)
  have HL4 := Lib.hid hl4
  have HT4 := Lib.hid ht4
  clear hl4 ht4
  go_wp2_with fail
  refine HL4.out.mono ?_
  rintro e W4' ⟨rfl, rfl⟩
  rename World => W4
  go_wp2_with fail
  refine HT4.out.mono ?_
  rintro e W5 ⟨A5, c5, lv5, rfl, hd5, hn5, hc5⟩
  have hu6 : Up W5 (W5.alloc (.cells #[.int .i64 2, .int .i64 1, .slice A5 1 c5] 29)) := (Chg.refl _ W5).alloc _
  have cv : (convert 22 9 (.slice A5 1 c5)).run Try.prog (W5.alloc (.cells #[.int .i64 2, .int .i64 1, .slice A5 1 c5] 29)) = .ok (.string ⟨#[98]⟩) (W5.alloc (.cells #[.int .i64 2, .int .i64 1, .slice A5 1 c5] 29)) := sl_string (xs := [98]) (DatB.slb (hd5.chg hu6 (fun _ _ _ h => h.elim)))
  have hl5 := len_any _ p _ _ _ _ (hn5.up hu6)
  have HL5 := Lib.hid hl5
  have HC5 := Lib.hid (show Chg (fun i => w.heap.size ≤ i) w W5 from HC4.out.then hc5 (fun i hi => by
    rcases hi with hi | hi
    · exact .inr (by have := HP.out; omega)
    · exact .inr (HB4.out i hi)))
  clear hd5 hn5 hc5 HT4 HL4 HN4 HC4 HB4 hl5 hu6
  go_wp2_with fail
  refine HL5.out.mono ?_
  rintro e W6 ⟨rfl, rfl⟩
  go_wp2_with fail
  go_ret
  exact ⟨rfl, (HC5.out.alloc _).below (Nat.le_refl _) (fun _ h => h)⟩
end Go.Proofs.Ytofmblkmfbioiaa
