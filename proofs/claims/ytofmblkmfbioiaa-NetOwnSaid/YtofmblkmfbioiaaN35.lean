/-
  The law 'NetPlays', walked.
-/
import Derived.Test.YtofmblkmfbioiaaN34
import Derived.Test.YtofmblkmfbioiaaN32
namespace Go.Proofs.Ytofmblkmfbioiaa
open Go.RowKit Go.Shelf
attribute [local go_sem] Oper.semAt_some
/-- One call more, and what it turns. -/
theorem PlayAt.step2 {w0 : World} {p : Nat} {lv0 xv0 : Value} {ls : List Let} {s : Int} {os : List OpI} {k : Nat} {lv xv : Value} {w : World} (h : PlayAt w0 p lv0 xv0 (playI ls (os.take k)) (sentI' s (os.take k)) lv xv w)
    (hl : ls.length ≤ 200) (hf : Few ls) (hs0 : 0 ≤ s) (hs1 : s ≤ 200) (ho : os.length ≤ 200) (hk : k < os.length) (hd : ∀ j, j < k + 1 → (os.getD j default).dat.length ≤ 100) (o : OpI) (hoe : os.getD k default = o) (d : Value) (hsl : SlB w d o.dat)
    (hdl : ∀ b, Value.blk d = some b → 0 < o.dat.length → b ≠ p ∧ lv.ownBlock ≠ some b) :
    Calls Try.prog 15 #[.pointer (some ⟨p, 0, none⟩), xv, .agg #[.int .i64 o.kind, .int .i64 o.at_, .int .i64 o.frm, .int .i64 o.to_, d]] w (fun e w' => Stepped w0 p lv0 xv0 (playI ls (os.take (k + 1))) (sentI' s (os.take (k + 1))) e w' ∧
      ∀ (g : Nat) (cur : Array Value) (t : TypeId) (fr : Nat × Nat), w.heap[g]? = some (.cells cur t fr) → t ≠ 57 → t ≠ 29 → t ≠ 49 → w'.heap[g]? = some (.cells cur t fr)) := by
  have e1 : (os.take (k + 1)).take k = os.take k := by rw [List.take_take, Nat.min_eq_left (by omega)]
  have hlen : (os.take (k + 1)).length = k + 1 := by rw [List.length_take]; omega
  obtain ⟨b1, b2, b3, b4⟩ := play_ok (os := os.take (k + 1)) hl hf hs0 hs1 (by omega) (fun j hj => by rw [takeO_getD os (k + 1) j hj]; have := hd j (by omega); omega) k
  rw [e1] at b1 b2 b3 b4
  have hnx : o.dat.length ≤ 1000 := by have := hd k (by omega); rw [hoe] at this; omega
  have hstep := h.step b3 b4 b1 b2 o d hsl hnx hdl
  obtain ⟨ds, h1, h2, h3, h4, h5⟩ := h
  have hs := step_any w p lv ds _ _ h1 b1 (fun j hj => b2.at_ j hj) xv h2 o.kind o.at_ o.frm o.to_ d o.dat hsl hnx b3 b4 hdl
  rw [playI_take ls os k hk, sentI_take s os k hk, hoe]
  refine hs.mono ?_
  rintro e w' ⟨B, c, lv', ds', rfl, k1, k2, k3, k4, k5⟩
  refine ⟨⟨B, c, lv', rfl, ds', k2, k1, h3.then k3 (fun i hi => ?_), fun g hg => ?_, fun g hg => ?_⟩, fun g cur t fr hg t1 t2 t3 => k3.heap hg (fun hi => ?_)⟩
  · rcases hi with hi | hi | hi
    · exact .inl (.inl hi)
    · rcases h4 i hi with h | h
      · exact .inl (.inr (.inl h))
      · exact .inr h
    · rcases h5 i hi with h | h
      · exact .inl (.inr (.inr h))
      · exact .inr h
  · rcases k4 g hg with h | h
    · exact h4 g h
    · exact .inr (Nat.le_trans h3.size h)
  · rcases k5 g hg with h | h
    · exact h5 g h
    · exact .inr (Nat.le_trans h3.size h)
  · rcases hi with hi | hi | hi
    · subst hi; rw [h1.obj] at hg; cases hg; exact t1 rfl
    · obtain ⟨c2, f2, hh⟩ := own_type h1.row g hi
      rw [hg] at hh; cases hh; exact t2 rfl
    · obtain ⟨c2, f2, hh⟩ := own_type h2 g hi
      rw [hg] at hh; cases hh; exact t3 rfl
/-- A box of another type is written. -/
theorem PlayAt.box {w0 w : World} {p : Nat} {lv0 xv0 lv xv : Value} {ls : List Let} {sent : Int} (h : PlayAt w0 p lv0 xv0 ls sent lv xv w) {g : Nat} {cur : Array Value} {t : TypeId} {fr : Nat × Nat} (hg : w.heap[g]? = some (.cells cur t fr)) (t1 : t ≠ 57) (t2 : t ≠ 29) (t3 : t ≠ 49) (t4 : t ≠ 5) (hw : w0.heap.size ≤ g) (off : Nat) (u : Value) :
    PlayAt w0 p lv0 xv0 ls sent lv xv (w.setCell ⟨g, off, none⟩ u) := by
  obtain ⟨ds, h1, h2, h3, h4, h5⟩ := h
  have hc : Chg (fun i => i = g) w (w.setCell ⟨g, off, none⟩ u) := (Chg.refl (fun i => i = g) w).setCell ⟨g, off, none⟩ (.inl rfl) _
  refine ⟨ds, h1.apart hc (fun e => ?_) (fun k hk e => ?_) (fun j k hj hk e => ?_), own_chg h2 hc (fun k hk e => ?_), h3.then hc (fun i hi => .inr (by omega)), h4, h5⟩
  · subst e; rw [h1.obj] at hg; cases hg; exact t1 rfl
  · subst e
    obtain ⟨c2, f2, hh⟩ := own_type h1.row k hk
    rw [hg] at hh; cases hh; exact t2 rfl
  · subst e
    obtain ⟨c2, f2, hh⟩ := own_type (h1.dat j hj) k hk
    rw [hg] at hh; cases hh; exact t4 rfl
  · subst e
    obtain ⟨c2, f2, hh⟩ := own_type h2 k hk
    rw [hg] at hh; cases hh; exact t3 rfl
theorem stepS_len (ls : List Let) (k a f t : Int) (xs : List Int) (hk : k = 1) : stepS k f t = if ls.length < (stepI ls k a f t xs).length then 1 else 0 := by
  subst hk
  unfold stepS stepI
  rw [if_pos rfl, if_pos rfl]
  by_cases h : (whoI f && whoI t) = true
  · rw [if_pos h, if_pos h, if_pos (by simp)]
  · rw [if_neg h, if_neg h, if_neg (by omega)]
theorem results_cell_bool {fn : Func} {q : Tmp} (h : fn.results = #[.cell q 4]) (tmps : Array Value) (w : World) (g : Nat) (b : Bool) (hp : tmps.getD q undef = .pointer (some ⟨g, 0, none⟩)) (hc : w.cell? ⟨g, 0, none⟩ = some (.bool b)) : (results fn tmps).run Try.prog w = .ok (.bool b) w := by
  have hp' : tmps[q]?.getD undef = .pointer (some ⟨g, 0, none⟩) := by simpa using hp
  have hl : (loadVar 4 ⟨g, 0, none⟩).run Try.prog w = .ok (.bool b) w := by go_simp
  simp [results, h, hp', asAddr, hl]
theorem cells_type {W : World} {g : Nat} {c1 c2 : Array Value} {t1 t2 : TypeId} {f1 f2 : Nat × Nat} (h : W.heap[g]? = some (.cells c1 t1 f1)) (k : W.heap[g]? = some (.cells c2 t2 f2)) : t1 = t2 := by
  rw [h] at k
  injection k with k
  injection k
def cellN (W : World) (g : Nat) : Nat := match W.cell? ⟨g, 0, none⟩ with | some v => (intOf v).toNat | none => 0
theorem keep_of_chg {g : Nat} {W W' : World} (h : Chg (fun i => i = g) W W') (hg : ∀ cur t fr, W.heap[g]? = some (.cells cur t fr) → t = 3) : KeepBut g W W' :=
  ⟨h.size, fun k cur t fr hk ht => h.heap hk (fun e => by subst e; rcases ht with ht | ht; exact ht (hg _ _ _ hk); exact ht rfl)⟩
theorem to_any (w : World) (p : Nat) (who : Int) : Calls Try.prog 20 #[.pointer (some ⟨p, 0, none⟩), .int .i64 who] w (fun e w' => e = .returned (.func (.func 30) #[] #[.pointer (some ⟨w.heap.size, 0, none⟩), .pointer (some ⟨w.heap.size + 1, 0, none⟩)]) ∧ w' = (w.alloc (.cells #[.pointer (some ⟨p, 0, none⟩)] 24)).alloc (.cells #[.int .i64 who] 3)) := by
  go_enter Try.func20, Try.ntmps20
  go_wp2_with fail
  go_ret
  exact ⟨rfl, rfl⟩
set_option maxRecDepth 100000 in
set_option maxHeartbeats 8000000 in
theorem netPlays_any (w : World) (v1 : Value) (os : List OpI) (ds1 : List Value) (h1 : OpsAt w v1 os ds1) (who : Int) : Calls Try.prog 6 #[v1, .int .i64 who] w (TruePost w) := by
  refine (callsIn_wide (n := 5)).1 ?_
  obtain ⟨A1, c1, rfl, hl1, hm1⟩ := h1.shape
  have HO1 := Lib.hid h1
  clear h1
  obtain ⟨W0, hW0⟩ : ∃ W, W = (w.alloc (.cells #[.int .i64 who] 3)).alloc (.cells #[.bool false] 4) := ⟨_, rfl⟩
  have hu0 : Up w W0 := by rw [hW0]; exact ((Chg.refl _ w).alloc _).alloc _
  have h30 : W0.heap[w.heap.size]? = some (.cells #[.int .i64 who] 3 (0, 0)) := by rw [hW0]; exact ((Chg.refl (fun _ => False) _).alloc _).heap (heap_alloc_last w _) (fun h => h)
  have h40 : W0.heap[w.heap.size + 1]? = some (.cells #[.bool false] 4 (0, 0)) := by rw [hW0]; have := heap_alloc_last (w.alloc (.cells #[.int .i64 who] 3)) (.cells #[.bool false] 4); simpa using this
  have hz0 : W0.heap.size = w.heap.size + 1 + 1 := by rw [hW0]; simp
  have hn0 := net_new W0
  obtain ⟨W1, hW1⟩ : ∃ W1, W1 = W0.alloc (.cells #[.slice none 0 0, .int .i64 0] 57) := ⟨_, rfl⟩
  rw [← hW1] at hn0
  have hu1 : Up W0 W1 := by rw [hW1]; exact (Chg.refl _ W0).alloc _
  have hz1 : W1.heap.size = w.heap.size + 1 + 1 + 1 := by rw [hW1]; simp [hz0]
  obtain ⟨p, hp⟩ : ∃ p, p = W0.heap.size := ⟨_, rfl⟩
  rw [← hp] at hn0
  have HN0 := Lib.hid hn0
  have HU1 := Lib.hid (hu0.trans hu1)
  have H31 := Lib.hid (hu1.heap h30 (fun h => h))
  have H41 := Lib.hid (hu1.heap h40 (fun h => h))
  have HP := Lib.hid hp
  have HPW := Lib.hid (show p = w.heap.size + 1 + 1 by rw [hp, hz0])
  have HW0 := Lib.hid hW0
  have HW1 := Lib.hid hW1
  have HZ1 := Lib.hid hz1
  have HNEW := Lib.hid (new_any W0)
  clear hn0 hu0 hu1 hW0 hW1 hp hz0 hz1 h30 h40
  refine callsIn_of_wp_marks Try.func6 rfl trivial ?_ rfl
  simp only [Try.ntmps6, List.size_toArray, List.length_cons, List.length_nil, Nat.reduceAdd, Nat.reduceSub, Array.replicate_succ, Array.replicate_zero, List.push_toArray, List.append_toArray, List.nil_append, List.cons_append]
  by_cases hbad : (60 : Int) < os.length
  · gi_wp2_with fail
    rw [← HW0.out]
    refine ⟨trivial, ?_⟩
    refine (callsIn_wide.2 HNEW.out).mono ?_
    rintro e Wx ⟨rfl, rfl⟩
    rw [← HW1.out, ← HP.out]
    have HAW := Lib.hid (awake_any W1)
    gi_wp2_with fail
    refine ⟨trivial, ?_⟩
    refine (callsIn_wide.2 HAW.out).mono ?_
    rintro e W2 ⟨rfl, hb2⟩
    have h42 := (up_below hb2).heap H41.out (fun h => h)
    have b4 := cell_of_row W2 (w.heap.size + 1) 0 _ _ _ h42
    have f4 := frozen_of_row W2 (w.heap.size + 1) 0 _ _ h42
    have HB2 := Lib.hid hb2
    have H42 := Lib.hid h42
    clear hb2 h42
    gi_wp2_with fail
    refine ⟨_, results_cell_bool rfl _ _ (w.heap.size + 1) true (by rfl) (cell_of_row _ (w.heap.size + 1) 0 _ _ _ (heap_setCell_same W2 (w.heap.size + 1) 0 _ _ _ H42.out)), rfl, ?_⟩
    exact ((HU1.out.trans (up_below HB2.out)).setCell ⟨w.heap.size + 1, 0, none⟩ (.inr (by simp)) _).below_none (fun _ _ h => h)
  · have hob : os.length ≤ 60 := by omega
    obtain ⟨W2, hW2⟩ : ∃ W, W = W1.alloc (.cells #[.slice none 0 0] 34) := ⟨_, rfl⟩
    have hu2 : Up W1 W2 := by rw [hW2]; exact (Chg.refl _ W1).alloc _
    obtain ⟨g6, hg6⟩ : ∃ g, g = W1.heap.size := ⟨_, rfl⟩
    have h62 : W2.heap[g6]? = some (.cells #[.slice none 0 0] 34 (0, 0)) := by rw [hW2, hg6]; exact heap_alloc_last _ _
    have HW2 := Lib.hid hW2
    have HU2 := Lib.hid hu2
    have HG6 := Lib.hid hg6
    have H62 := Lib.hid h62
    clear hW2 hu2 hg6 h62 hbad
    gi_wp2_with fail
    rw [← HW0.out]
    refine ⟨trivial, ?_⟩
    refine (callsIn_wide.2 HNEW.out).mono ?_
    rintro e Wx ⟨rfl, rfl⟩
    rw [← HW1.out, ← HP.out]
    have HST0 := Lib.hid ((PlayAt.start HN0.out (show XAt W1 0 (.slice none 0 0) [] from World.ownsRow_nil _ _ _ _)).up HU2.out)
    have HCB := Lib.hid (show Chg (fun i => w.heap.size ≤ i) w W1 from HU1.out.mono (fun _ _ h => h.elim))
    have HPB := Lib.hid (show w.heap.size ≤ p by have := HPW.out; omega)
    have HNB := Lib.hid (show ∀ g, (Value.slice none 0 0).ownBlock = some g → w.heap.size ≤ g from fun g hg => by simp [Value.ownBlock] at hg)
    have HLL := Lib.hid (show ([] : List Let).length ≤ 200 by decide)
    have HFW := Lib.hid Few.nil
    have HSS := Lib.hid (show (0 : Int) ≤ 0 ∧ (0 : Int) ≤ 200 by omega)
    gi_wp2_with fail
    rw [← HW2.out, ← HG6.out]
    gi_loopw [7, 30] (fun st i wr => ∃ (k : Nat) (lv xv : Value), k ≤ os.length ∧ i = .int .i64 k ∧ st = .int .i64 (sentI' 0 (os.take k)) ∧ PlayAt W1 p (.slice none 0 0) (.slice none 0 0) (playI [] (os.take k)) (sentI' 0 (os.take k)) lv xv wr ∧ wr.heap[g6]? = some (.cells #[xv] 34 (0, 0)) ∧ ∀ j, j < k → (os.getD j default).dat.length ≤ 100) (fun _ i _ => os.length - (intOf i).toNat)
    case atStart => exact ⟨0, _, _, by omega, rfl, rfl, by rw [List.take_zero]; exact HST0.out, H62.out, fun j hj => by omega⟩
    case round =>
      rename World => wr
      obtain ⟨k, lv, xv, hk, rfl, rfl, hpl, h6, hall⟩ := hrel
      by_cases hk2 : (k : Int) < os.length
      · obtain ⟨hch, hlb, hxb⟩ := hpl.base HCB.out (Nat.le_refl _) HPB.out HNB.out HNB.out
        obtain ⟨b', off, rfl, a0, a1, a2, a3, a4, hsl, hdl⟩ := HO1.out.row hch k (by omega)
        obtain ⟨o, ho⟩ : ∃ o, os.getD k default = o := ⟨_, rfl⟩
        rw [ho] at a0 a1 a2 a3 hsl hdl
        obtain ⟨Ad, cd, hd, _⟩ := hsl.shape
        rw [hd] at a4 hsl hdl
        obtain ⟨wq, hwq⟩ : ∃ W, W = wr.alloc (.cells #[.int .i64 o.kind, .int .i64 o.at_, .int .i64 o.frm, .int .i64 o.to_, .slice Ad o.dat.length cd] 36) := ⟨_, rfl⟩
        have huq : Up wr wq := by rw [hwq]; exact (Chg.refl _ wr).alloc _
        obtain ⟨g9, hg9⟩ : ∃ g, g = wr.heap.size := ⟨_, rfl⟩
        have h9q : wq.heap[g9]? = some (.cells #[.int .i64 o.kind, .int .i64 o.at_, .int .i64 o.frm, .int .i64 o.to_, .slice Ad o.dat.length cd] 36 (0, 0)) := by rw [hwq, hg9]; exact heap_alloc_last _ _
        have HWQ := Lib.hid hwq
        have HUQ := Lib.hid huq
        by_cases hx : (100 : Int) < o.dat.length
        · have HAW := Lib.hid (awake_any wq)
          have HCH := Lib.hid (hch.then huq (fun i hi => hi.elim))
          obtain ⟨_, _, _, hpc, _, _⟩ := hpl
          have h4 := huq.heap (hpc.heap H41.out (fun hs => by
            rcases hs with hs | hs | hs
            · have := HPW.out; omega
            · simp [Value.ownBlock] at hs
            · simp [Value.ownBlock] at hs)) (fun h => h)
          have H4 := Lib.hid h4
          clear hch hlb hxb hsl hdl hd ho hwq huq hall hpc h4 h6 h9q hg9
          gi_wp2_with fail
          rw [← HWQ.out]
          refine ⟨trivial, ?_⟩
          refine (callsIn_wide.2 HAW.out).mono ?_
          rintro e W4 ⟨rfl, hb4⟩
          have h44 := (up_below hb4).heap H4.out (fun h => h)
          have b4 := cell_of_row W4 (w.heap.size + 1) 0 _ _ _ h44
          have f4 := frozen_of_row W4 (w.heap.size + 1) 0 _ _ h44
          have HB4 := Lib.hid hb4
          have H44 := Lib.hid h44
          clear hb4 h44 a0 a1 a2 a3 a4
          gi_wp2_with fail
          refine ⟨_, results_cell_bool rfl _ _ (w.heap.size + 1) true (by rfl) (cell_of_row _ (w.heap.size + 1) 0 _ _ _ (heap_setCell_same W4 (w.heap.size + 1) 0 _ _ _ H44.out)), rfl, ?_⟩
          exact ((HCH.out.then (up_below HB4.out) (fun i hi => hi.elim)).setCell ⟨w.heap.size + 1, 0, none⟩ (.inl (by simp)) _).below (Nat.le_refl _) (fun i hi => hi)
        · have hall2 : ∀ j, j < k + 1 → (os.getD j default).dat.length ≤ 100 := fun j hj => by
            by_cases hjk : j = k
            · subst hjk; rw [ho]; omega
            · exact hall j (by omega)
          have hst := (hpl.up huq).step2 HLL.out HFW.out HSS.out.1 HSS.out.2 (by omega) (by omega) hall2 o ho _ (Src.chg hsl huq (fun _ _ _ h => h) (by decide))
            (fun g hg h0 => ⟨fun e => by have h1 := hdl g hg h0; have h2 := HPB.out; omega, fun e => by have h1 := hdl g hg h0; have h2 := hlb g e; omega⟩)
          have hrelL : playI [] (os.take (k + 1)) = stepI (playI [] (os.take k)) o.kind o.at_ o.frm o.to_ o.dat := by rw [playI_take [] os k (by omega), ho]; rfl
          have hrelS : sentI' 0 (os.take (k + 1)) = sentI' 0 (os.take k) + stepS o.kind o.frm o.to_ := by rw [sentI_take 0 os k (by omega), ho]; rfl
          have hok := play_ok (os := os.take (k + 1)) HLL.out HFW.out HSS.out.1 HSS.out.2 (by rw [List.length_take]; omega) (fun j hj => by rw [takeO_getD os (k + 1) j hj]; have := hall2 j (by rw [List.length_take] at hj; omega); omega) (k + 1)
          rw [show (os.take (k + 1)).take (k + 1) = os.take (k + 1) by rw [List.take_take, Nat.min_self]] at hok
          obtain ⟨b1, b2, b3, b4⟩ := hok
          have hlb1 := playI_len [] (os.take (k + 1))
          have hsb1 := sentI_le 0 (os.take (k + 1))
          have hlb0 := playI_len [] (os.take k)
          have hsb0 := sentI_le 0 (os.take k)
          rw [List.length_nil, List.length_take] at hlb1 hlb0
          rw [List.length_take] at hsb1 hsb0
          obtain ⟨L0, hL0⟩ : ∃ L, playI [] (os.take k) = L := ⟨_, rfl⟩
          obtain ⟨L1, hL1⟩ : ∃ L, playI [] (os.take (k + 1)) = L := ⟨_, rfl⟩
          obtain ⟨s0, hs0⟩ : ∃ s, sentI' 0 (os.take k) = s := ⟨_, rfl⟩
          obtain ⟨s1, hs1⟩ : ∃ s, sentI' 0 (os.take (k + 1)) = s := ⟨_, rfl⟩
          rw [hL0] at hpl hrelL hlb0
          rw [hs0] at hpl hrelS hsb0 ⊢
          rw [hL1] at hst hrelL b1 b2 hlb1
          rw [hs1] at hst hrelS hsb1 b3 b4
          have hxsh : ∃ B c, xv = .slice B L0.length c := by obtain ⟨_, _, hX, _⟩ := hpl; exact own_shape hX
          obtain ⟨Bx, cx, rfl⟩ := hxsh
          have h6q := huq.heap h6 (fun h => h)
          have c6 : (wr.alloc (.cells #[.int .i64 o.kind, .int .i64 o.at_, .int .i64 o.frm, .int .i64 o.to_, .slice Ad o.dat.length cd] 36)).cell? ⟨g6, 0, none⟩ = some (.slice Bx L0.length cx) := by rw [← hwq]; exact cell_of_row wq g6 0 _ _ _ h6q
          have hls0 : L0.length ≤ 60 := by omega
          have hls1 : L1.length ≤ 60 := by omega
          have hss0 : 0 ≤ s0 ∧ s0 ≤ 60 := by omega
          obtain ⟨hs00, hs01⟩ := hss0
          have hkind : (o.kind = 1 ∧ L0.length < L1.length ∧ s1 = s0 + 1) ∨ (o.kind = 1 ∧ ¬ L0.length < L1.length ∧ s1 = s0) ∨ (o.kind ≠ 1 ∧ s1 = s0) := by
            by_cases hk1 : o.kind = 1
            · have := stepS_len L0 o.kind o.at_ o.frm o.to_ o.dat hk1
              rw [← hrelL] at this
              by_cases hlt : L0.length < L1.length
              · rw [if_pos hlt] at this; exact .inl ⟨hk1, hlt, by omega⟩
              · rw [if_neg hlt] at this; exact .inr (.inl ⟨hk1, hlt, by omega⟩)
            · have := stepS_not (f := o.frm) (t := o.to_) hk1
              exact .inr (.inr ⟨hk1, by omega⟩)
          have HST := Lib.hid hst
          have HALL2 := Lib.hid hall2
          have H6Q := Lib.hid h6q
          have H9Q := Lib.hid h9q
          have HG9 := Lib.hid hg9
          have HB1 := Lib.hid b1
          have HB2 := Lib.hid b2
          have HL1 := Lib.hid hL1
          have HS1 := Lib.hid hs1
          clear hpl hch hlb hxb hsl hdl hd ho hwq huq hst hall hall2 hrelL hrelS b1 b2 b3 b4 hlb1 hsb1 hlb0 hsb0 hL0 hL1 hs0 hs1 h6 h6q h9q hg9
          gi_wp2_with fail
          rw [← HWQ.out]
          refine ⟨trivial, ?_⟩
          refine (callsIn_wide.2 HST.out).mono ?_
          rintro e W9 ⟨⟨B9, c9, lv9, rfl, hpl9⟩, hkeep⟩
          have h69 := hkeep _ _ _ _ H6Q.out (by decide) (by decide) (by decide)
          have h99 := hkeep _ _ _ _ H9Q.out (by decide) (by decide) (by decide)
          have d6 := cell_of_row W9 g6 0 _ _ _ h69
          have e6 := frozen_of_row W9 g6 0 _ _ h69
          have d9 := cell_of_row W9 g9 0 _ _ _ h99
          rw [HG9.out] at d9
          have hpl10 := hpl9.box h69 (by decide) (by decide) (by decide) (by decide) (by have := HG6.out; omega) 0 (.slice B9 L1.length c9)
          have h610 := heap_setCell_same W9 g6 0 _ _ (.slice B9 L1.length c9) h69
          obtain ⟨W10, hW10⟩ : ∃ W, W = W9.setCell ⟨g6, 0, none⟩ (.slice B9 L1.length c9) := ⟨_, rfl⟩
          have d10 : (W9.setCell ⟨g6, 0, none⟩ (.slice B9 L1.length c9)).cell? ⟨g6, 0, none⟩ = some (.slice B9 L1.length c9) := cell_of_row _ g6 0 _ _ _ h610
          rw [← hW10] at hpl10 h610
          have hpl10' := hpl10
          obtain ⟨ds10, hn10, hx10, _, _, _⟩ := hpl10'
          have HSAME := Lib.hid (same_any W10 p lv9 ds10 L1 s1 hn10 (by omega) (fun j hj => HB2.out.at_ j hj) 0 _ hx10)
          have HN10 := Lib.hid hn10
          have HPL10 := Lib.hid hpl10
          have H610 := Lib.hid h610
          have HW10 := Lib.hid hW10
          clear hkeep h69 h99 hpl9 hpl10 h610 hW10 hn10 hx10 a0 a1 a2 a3 a4 c6
          rcases hkind with ⟨hk1, hlt, hse⟩ | ⟨hk1, hlt, hse⟩ | ⟨hk1, hse⟩
          · rw [hse] at HN10 HPL10 HS1
            clear hse
            have HSENT := fun W (hu : Up W10 W) => Lib.hid (sent_any W p lv9 ds10 L1 _ (HN10.out.up hu))
            gi_wp2_with fail
            rw [← HW10.out]
            refine ⟨trivial, ?_⟩
            refine (callsIn_wide.2 HSAME.out).mono ?_
            rintro e W11 ⟨rfl, hb11⟩
            have hu11 := up_below hb11
            have HS11 := HSENT W11 hu11
            have HU11 := Lib.hid hu11
            clear hb11 hu11 HSENT
            gi_wp2_with fail
            refine ⟨trivial, ?_⟩
            refine (callsIn_wide.2 HS11.out).mono ?_
            rintro e W12 ⟨rfl, rfl⟩
            gi_wp2_with fail
            exact ⟨⟨k + 1, lv9, .slice B9 L1.length c9, by omega, by go_num, by rw [HS1.out], by rw [HL1.out, HS1.out]; exact HPL10.out.up HU11.out, HU11.out.heap H610.out (fun h => h), HALL2.out⟩, by simp [intOf]; omega⟩
          · rw [hse] at HN10 HPL10 HS1
            clear hse
            have HSENT := fun W (hu : Up W10 W) => Lib.hid (sent_any W p lv9 ds10 L1 _ (HN10.out.up hu))
            gi_wp2_with fail
            rw [← HW10.out]
            refine ⟨trivial, ?_⟩
            refine (callsIn_wide.2 HSAME.out).mono ?_
            rintro e W11 ⟨rfl, hb11⟩
            have hu11 := up_below hb11
            have HS11 := HSENT W11 hu11
            have HU11 := Lib.hid hu11
            clear hb11 hu11 HSENT
            gi_wp2_with fail
            refine ⟨trivial, ?_⟩
            refine (callsIn_wide.2 HS11.out).mono ?_
            rintro e W12 ⟨rfl, rfl⟩
            gi_wp2_with fail
            exact ⟨⟨k + 1, lv9, .slice B9 L1.length c9, by omega, by go_num, by rw [HS1.out], by rw [HL1.out, HS1.out]; exact HPL10.out.up HU11.out, HU11.out.heap H610.out (fun h => h), HALL2.out⟩, by simp [intOf]; omega⟩
          · rw [hse] at HN10 HPL10 HS1
            clear hse
            have HSENT := fun W (hu : Up W10 W) => Lib.hid (sent_any W p lv9 ds10 L1 _ (HN10.out.up hu))
            gi_wp2_with fail
            rw [← HW10.out]
            refine ⟨trivial, ?_⟩
            refine (callsIn_wide.2 HSAME.out).mono ?_
            rintro e W11 ⟨rfl, hb11⟩
            have hu11 := up_below hb11
            have HS11 := HSENT W11 hu11
            have HU11 := Lib.hid hu11
            clear hb11 hu11 HSENT
            gi_wp2_with fail
            refine ⟨trivial, ?_⟩
            refine (callsIn_wide.2 HS11.out).mono ?_
            rintro e W12 ⟨rfl, rfl⟩
            gi_wp2_with fail
            exact ⟨⟨k + 1, lv9, .slice B9 L1.length c9, by omega, by go_num, by rw [HS1.out], by rw [HL1.out, HS1.out]; exact HPL10.out.up HU11.out, HU11.out.heap H610.out (fun h => h), HALL2.out⟩, by simp [intOf]; omega⟩
      · obtain rfl : k = os.length := by omega
        rw [List.take_length] at hpl ⊢
        obtain ⟨hch, hlb, hxb⟩ := hpl.base HCB.out (Nat.le_refl _) HPB.out HNB.out HNB.out
        obtain ⟨ds, hnet, hX, hpc, _, _⟩ := hpl
        have h3 := hpc.heap H31.out (fun hs => by
          rcases hs with hs | hs | hs
          · have := HPW.out; omega
          · simp [Value.ownBlock] at hs
          · simp [Value.ownBlock] at hs)
        have h4 := hpc.heap H41.out (fun hs => by
          rcases hs with hs | hs | hs
          · have := HPW.out; omega
          · simp [Value.ownBlock] at hs
          · simp [Value.ownBlock] at hs)
        obtain ⟨q1, q2, q3, q4⟩ := play_ok HLL.out HFW.out HSS.out.1 HSS.out.2 (show os.length ≤ 200 by omega) (fun j hj => by have := hall j hj; omega) os.length
        have q5 := playI_len [] os
        rw [List.take_length] at q1 q2
        rw [List.length_nil] at q5
        obtain ⟨L, hL⟩ : ∃ L, playI [] os = L := ⟨_, rfl⟩
        obtain ⟨S1, hS1⟩ : ∃ s, sentI' 0 os = s := ⟨_, rfl⟩
        rw [hL] at hnet hX q1 q2 q5
        rw [hS1] at hnet ⊢
        have hln : L.length ≤ 60 := by omega
        obtain ⟨N, hN⟩ : ∃ N, L.length = N := ⟨_, rfl⟩
        rw [hN] at hln
        have hsh := own_shape hX
        rw [hN] at hsh
        obtain ⟨Bx, cx, rfl⟩ := hsh
        obtain ⟨g3, hg3⟩ : ∃ g, g = w.heap.size := ⟨_, rfl⟩
        obtain ⟨g4, hg4⟩ : ∃ g, g = w.heap.size + 1 := ⟨_, rfl⟩
        rw [← hg4, ← hg3]
        rw [← hg3] at h3
        rw [← hg4] at h4
        obtain ⟨W3, hW3⟩ : ∃ W, W = wr.alloc (.cells #[.int .i64 0] 3) := ⟨_, rfl⟩
        obtain ⟨g12, hg12⟩ : ∃ g, g = wr.heap.size := ⟨_, rfl⟩
        have hu3 : Up wr W3 := by rw [hW3]; exact (Chg.refl _ wr).alloc _
        have hat3 : W3.heap[g12]? = some (.cells #[.int .i64 0] 3 (0, 0)) := by rw [hW3, hg12]; exact heap_alloc_last _ _
        have c3w : (wr.alloc (.cells #[.int .i64 0] 3)).cell? ⟨g3, 0, none⟩ = some (.int .i64 who) := by rw [← hW3]; exact cell_of_row W3 g3 0 _ _ _ (hu3.heap h3 (fun h => h))
        have HTO := Lib.hid (to_any W3 p who)
        obtain ⟨W4, hW4⟩ : ∃ W, W = (W3.alloc (.cells #[.pointer (some ⟨p, 0, none⟩)] 24)).alloc (.cells #[.int .i64 who] 3) := ⟨_, rfl⟩
        have hu4 : Up W3 W4 := by rw [hW4]; exact ((Chg.refl _ W3).alloc _).alloc _
        have hgp4 : W4.heap[W3.heap.size]? = some (.cells #[.pointer (some ⟨p, 0, none⟩)] 24 (0, 0)) := by rw [hW4]; exact ((Chg.refl (fun _ => False) _).alloc _).heap (heap_alloc_last W3 _) (fun h => h)
        have hgw4 : W4.heap[W3.heap.size + 1]? = some (.cells #[.int .i64 who] 3 (0, 0)) := by rw [hW4]; have := heap_alloc_last (W3.alloc (.cells #[.pointer (some ⟨p, 0, none⟩)] 24)) (.cells #[.int .i64 who] 3); simpa using this
        have hu := hu3.trans hu4
        have hwlt : g12 < W3.heap.size := (Array.getElem?_eq_some_iff.1 hat3).1
        have hg3l : g3 < g12 := by rw [hg12]; exact (Array.getElem?_eq_some_iff.1 h3).1
        have hg4l : g4 < g12 := by rw [hg12]; exact (Array.getElem?_eq_some_iff.1 h4).1
        have hg6l : g6 < g12 := by rw [hg12]; exact (Array.getElem?_eq_some_iff.1 h6).1
        have HIT := Lib.hid (to_iter W4 p lv ds L S1 (hnet.up hu) (by omega) (fun j hj => q2.at_ j hj) who W3.heap.size (W3.heap.size + 1) hgp4 hgw4 (fun d x W => W.ownsRow 0 5 1 d x.2.2.length (u8s x.2.2)) (KeepBut g12)
          (fun d x A B h hu => own_chg h hu (fun _ _ h => h)) (fun d x W h => own_base h (Nat.zero_le _)) (fun d x A B h hk => own_keep h hk (by decide)) (fun A B v n us h hk => own_keep h hk (by decide)) (fun A B h hk => hk.2 _ _ _ _ h (.inr (by omega))) (5 - 1) (by omega))
        have H3 := Lib.hid (hu.heap h3 (fun h => h))
        have H4 := Lib.hid (hu.heap h4 (fun h => h))
        have H6 := Lib.hid (hu.heap h6 (fun h => h))
        have H12 := Lib.hid (hu4.heap hat3 (fun h => h))
        have HX4 := Lib.hid (show XAt W4 0 (.slice Bx N cx) L from own_chg hX hu (fun _ _ h => h))
        have HCH := Lib.hid (hch.then hu (fun i hi => hi.elim))
        have HNN := Lib.hid hN
        have HG34 := Lib.hid (show g3 < g12 ∧ g4 < g12 ∧ g6 < g12 ∧ g12 < W4.heap.size ∧ w.heap.size ≤ g12 ∧ w.heap.size ≤ g4 from ⟨hg3l, hg4l, hg6l, Nat.lt_of_lt_of_le hwlt hu4.size, by omega, by omega⟩)
        have HW3 := Lib.hid hW3
        have HW4 := Lib.hid hW4
        have HG12 := Lib.hid hg12
        clear hch hlb hxb hnet hX hpc h3 h4 h6 hall q1 q2 q3 q4 q5 hL hS1 hN hW3 hW4 hu3 hu4 hu hgp4 hgw4 hat3 hg12 hwlt hg3l hg4l hg6l hk hk2 HST0 HLL HFW HSS hg3 hg4
        gi_wp2_with fail
        rw [← HW3.out, ← HG12.out]
        refine ⟨trivial, ?_⟩
        refine (callsIn_wide.2 HTO.out).mono ?_
        rintro e Wx ⟨rfl, rfl⟩
        rw [← HW4.out]
        clear c3w
        gi_wp2_with fail
        refine range_up (n := 5) (by omega) (gf := 30) (lb := #[.pointer (some ⟨W3.heap.size, 0, none⟩), .pointer (some ⟨W3.heap.size + 1, 0, none⟩)]) rfl (enters_of Try.func30 (by kernel_rfl) rfl) HIT.out (KeepBut.trans g12) (KeepBut.up g12) (KeepBut.putObj g12) (fun _ => rfl)
          (fun pre W => Chg (fun i => i = g12) W4 W ∧ W.heap[g12]? = some (.cells #[.int .i64 (atOf pre : Int)] 3 (0, 0)))
          (fun s A B h hu => ⟨h.1.then hu (fun _ h => h.elim), hu.heap h.2 (fun h => h)⟩)
          (fun s W l o o' h hl ho hc => ⟨h.1.putObj l (.inr hl) _, (World.putObj_heap_other (fun e => by subst e; rw [ho] at h; have := h.2; cases this; cases hc)).trans h.2⟩) ⟨Chg.refl _ _, H12.out⟩
          (fun pre x A B h hu => ⟨h.1, h.2.1, h.2.2.1, h.2.2.2.1, own_chg h.2.2.2.2 hu (fun _ _ h => h)⟩) (fun pre x W l o o' h hl ho => ⟨h.1, h.2.1, h.2.2.1, h.2.2.2.1, own_keep h.2.2.2.2 (KeepBut.putObj 0 W l o o' hl ho) (by decide)⟩)
          (fun a x a' W => ∃ g, a' = { tmps := (((a.tmps.setIfInBounds 78 (.int .i64 (x.1 : Int))).setIfInBounds 79 (.agg #[.int .i64 (L.getD x.1 default).1, .int .i64 (L.getD x.1 default).2.1, x.2])).setIfInBounds 13 (.int .i64 (x.1 : Int))).setIfInBounds 14 (.pointer (some ⟨g, 0, none⟩)), defers := [] } ∧ W.heap[g]? = some (.cells #[.int .i64 (L.getD x.1 default).1, .int .i64 (L.getD x.1 default).2.1, x.2] 29 (0, 0)))
          (fun x a' W l o o' h hl ho => by
            obtain ⟨g, e, hg⟩ := h
            exact ⟨g, e, (World.putObj_heap_other (fun e => by subst e; rw [hl] at hg; cases hg; cases ho)).trans hg⟩) ?_ ?_ ?_
        · rintro l pre ⟨q, dq⟩ W K ⟨_, _, _, ⟨A3, c3, hsh⟩, _⟩ hK
          dsimp only at hsh hK
          subst hsh
          unfold handV
          dsimp only
          obtain ⟨y, hye⟩ : ∃ y, L.getD q default = y := ⟨_, rfl⟩
          rw [hye] at hK ⊢
          obtain ⟨f, t, xs⟩ := y
          dsimp only at hK ⊢
          clear hye
          gi_wp2_with fail
          exact hK _ _ ((Chg.refl _ W).alloc _) ⟨_, rfl, heap_alloc_last _ _⟩
        · rintro l pre ⟨q, dq⟩ a' W ⟨hch, hat⟩ ⟨hq, hpre, htb, ⟨D3, c3, hsh⟩, hdat⟩ ⟨g14, rfl, hg14⟩
          dsimp only at hq hpre htb hsh hdat hg14 ⊢
          subst hsh
          have hxw : XAt W 0 (.slice Bx N cx) L := own_chg HX4.out hch (fun k hk e => by
            subst e
            obtain ⟨c2, f2, hh⟩ := own_type HX4.out k hk
            rw [H12.out] at hh; cases hh)
          have h3w := hch.heap H3.out (by have := HG34.out; omega)
          have h6w := hch.heap H6.out (by have := HG34.out; omega)
          obtain ⟨gx, rfl⟩ : ∃ g, Bx = some ⟨g, 0, none⟩ := by
            rcases hxw.2 with ⟨_, hz⟩ | ⟨g, cap, cur, he, _⟩
            · omega
            · injection he with e1; exact ⟨g, e1⟩
          have hgx : gx ≠ g12 := fun e => by
            subst e
            obtain ⟨c2, f2, hh⟩ := own_type HX4.out gx rfl
            rw [H12.out] at hh; cases hh
          have hg14n : g14 ≠ g12 := fun e => by subst e; exact absurd (cells_type hat hg14) (by decide)
          have hqN : q < N := by rw [HNN.out] at hq; exact hq
          have hale := atOf_le hpre
          have hnone := fun j h1 h2 => atOf_none hpre j h1 h2
          obtain ⟨y, hye⟩ : ∃ y, L.getD q default = y := ⟨_, rfl⟩
          have htb' : (y.2.1 == who) = true := by unfold toB at htb; rw [hye] at htb; exact htb
          rw [hye] at hg14 hdat ⊢
          obtain ⟨f, t, xs⟩ := y
          dsimp only at hg14 hdat htb' ⊢
          have HXW := Lib.hid hxw
          have H3W := Lib.hid h3w
          have H6W := Lib.hid h6w
          have HAT := Lib.hid hat
          have HCHW := Lib.hid hch
          have HG14 := Lib.hid hg14
          have HDAT := Lib.hid hdat
          have HNONE := Lib.hid hnone
          have HYE := Lib.hid hye
          have HTB := Lib.hid htb'
          have HNE := Lib.hid (show gx ≠ g12 ∧ g14 ≠ g12 from ⟨hgx, hg14n⟩)
          clear hxw h3w h6w hat hch hg14 hdat hnone hye htb' hpre htb hgx hg14n hq
          simp only [List.setIfInBounds_toArray, List.set_cons_zero, List.set_cons_succ]
          gi_wp2_with fail
          gi_loopw [80] (fun _ wr => ∃ j : Nat, atOf pre ≤ j ∧ j ≤ q ∧ Chg (fun i => i = g12) W wr ∧ wr.heap[g12]? = some (.cells #[.int .i64 (j : Int)] 3 (0, 0))) (fun _ wr => q - cellN wr g12)
          case atStart => exact ⟨atOf pre, Nat.le_refl _, hale, Chg.refl _ _, HAT.out⟩
          case round =>
            rename World => wb
            obtain ⟨j, hj1, hj2, hcw, h12⟩ := hrel
            have hcwd : Chg (fun i => i = g12) W wb.drew := hcw.drew
            have hcn : cellN wb g12 = j := by unfold cellN; rw [cell_of_row wb g12 0 _ _ _ h12]; simp [intOf]
            have A12 : Hid (wb.drew.cell? ⟨g12, 0, none⟩ = some (.int .i64 (j : Int))) := Lib.hid (cell_of_row wb g12 0 _ _ _ h12)
            have hneg := HG34.out
            have A6 : Hid (wb.drew.cell? ⟨g6, 0, none⟩ = some (.slice (some ⟨gx, 0, none⟩) N cx)) := Lib.hid (cell_of_row _ g6 0 _ _ _ (hcwd.heap H6W.out (by omega)))
            have A3 : Hid (wb.drew.cell? ⟨g3, 0, none⟩ = some (.int .i64 who)) := Lib.hid (cell_of_row _ g3 0 _ _ _ (hcwd.heap H3W.out (by omega)))
            have hxd : XAt wb.drew 0 (.slice (some ⟨gx, 0, none⟩) N cx) L := own_chg HXW.out hcwd (fun k hk e => HNE.out.1 (by have : gx = k := (by simpa [Value.ownBlock] using hk); omega))
            have hjN : j < N := by omega
            have hjL : j < L.length := by rw [HNN.out]; omega
            obtain ⟨s0, s1, s2⟩ := hxd.cells j hjL
            have HN12 := Lib.hid h12
            have HCW := Lib.hid hcw
            by_cases hjq : j < q
            · have hb : ((L.getD j default).2.1 == who) = false := HNONE.out j hj1 hjq
              obtain ⟨tj, htj⟩ : ∃ x, (L.getD j default).2.1 = x := ⟨_, rfl⟩
              rw [htj] at s1 hb
              obtain ⟨bj, hbj⟩ : ∃ b, b = true := ⟨_, rfl⟩
              have HBJ := Lib.hid (show (tj != who) = bj by rw [hbj]; unfold bne; rw [hb]; rfl)
              have ATJ := Lib.hid s1
              have HBE := Lib.hid hbj
              clear s0 s1 s2 hxd hneg hcwd h12 hcw hb htj hbj
              gi_wp2_with fail
              refine MT.region_monoIn (wideF.round l) Up [fun v _ => v = .int .i64 (j : Int),
                  fun v _ => v = .slice (some ⟨gx, 0, none⟩) N cx,
                  fun v _ => v = .int .i64 (N : Int),
                  fun v _ => v = .bool true,
                  fun v _ => v = .bool true,
                  fun v _ => v = .slice (some ⟨gx, 0, none⟩) N cx,
                  fun v _ => v = .int .i64 (j : Int),
                  fun v _ => v = .pointer (some ⟨gx, j * 3, none⟩),
                  fun v _ => v = .pointer (some ⟨gx, j * 3 + 1, none⟩),
                  fun v _ => v = .int .i64 tj,
                  fun v _ => v = .int .i64 who,
                  fun v _ => v = .bool bj,
                  fun v _ => v = .bool bj] (by kernel_rfl) (by kernel_rfl) (by kernel_rfl) (Chg.refl _) (fun _ _ _ => Chg.trans) (by simp) ?_ ?_ ?_
              · simp only [List.forall_mem_cons]
                exact ⟨fun _ _ _ _ _ h => h, fun _ _ _ _ _ h => h, fun _ _ _ _ _ h => h, fun _ _ _ _ _ h => h, fun _ _ _ _ _ h => h, fun _ _ _ _ _ h => h, fun _ _ _ _ _ h => h, fun _ _ _ _ _ h => h, fun _ _ _ _ _ h => h, fun _ _ _ _ _ h => h, fun _ _ _ _ _ h => h, fun _ _ _ _ _ h => h, fun _ _ _ _ _ h => h, by simp⟩
              · refine ⟨?_, ?_, ?_, ?_, ?_, ?_, ?_, ?_, ?_, ?_, ?_, ?_, ?_, trivial⟩
                · intro ρ w1 hw h0 hc hg hf hd
                  have s12 : ρ (.tmp 12) = .pointer (some ⟨g12, 0, none⟩) := h0 12 (by kernel_rfl)
                  refine ⟨fun _ => ?_, fun h => by cases h⟩
                  clear h0 hg hd
                  clear hc hf
                  have l0 := hw.cell A12.out (fun h => h)
                  refine Gives.value (w' := w1) ?_ ⟨Chg.refl _ _, rfl⟩
                  go_simp
                · intro ρ w1 hw h0 hc hg hf hd
                  have s6 : ρ (.tmp 6) = .pointer (some ⟨g6, 0, none⟩) := h0 6 (by kernel_rfl)
                  refine ⟨fun _ => ?_, fun h => by cases h⟩
                  clear h0 hg hd
                  clear hc hf
                  have l0 := hw.cell A6.out (fun h => h)
                  refine Gives.value (w' := w1) ?_ ⟨Chg.refl _ _, rfl⟩
                  go_simp
                · intro ρ w1 hw h0 hc hg hf hd
                  have d1 := hd ⟨1, .data⟩ (by simp) rfl _ _ _ rfl rfl rfl
                  refine ⟨fun _ => ?_, fun h => by cases h⟩
                  clear h0 hg hd
                  clear hf
                  refine Gives.value (w' := w1) ?_ ⟨Chg.refl _ _, rfl⟩
                  go_simp
                · intro ρ w1 hw h0 hc hg hf hd
                  have d0 := hd ⟨0, .data⟩ (by simp) rfl _ _ _ rfl rfl rfl
                  have d2 := hd ⟨2, .data⟩ (by simp) rfl _ _ _ rfl rfl rfl
                  refine ⟨fun _ => ?_, fun h => by cases h⟩
                  clear h0 hg hd
                  clear hf
                  refine Gives.value (w' := w1) ?_ ⟨Chg.refl _ _, rfl⟩
                  go_simp
                · intro ρ w1 hw h0 hc hg hf hd
                  have d3 := hd ⟨3, .data⟩ (by simp) rfl _ _ _ rfl rfl rfl
                  refine ⟨fun _ => ?_, fun h => by cases h⟩
                  clear h0 hg hd
                  exact gives_move rfl ⟨Chg.refl _ _, d3⟩
                · intro ρ w1 hw h0 hc hg hf hd
                  have d4 := hd ⟨4, .guard⟩ (by simp) rfl _ _ _ rfl rfl rfl
                  have s6 : ρ (.tmp 6) = .pointer (some ⟨g6, 0, none⟩) := h0 6 (by kernel_rfl)
                  refine ⟨fun _ => ?_, fun h => by rw [wantedBy_true rfl rfl rfl d4] at h; cases h⟩
                  clear d4
                  clear h0 hg hd
                  clear hc hf
                  have l0 := hw.cell A6.out (fun h => h)
                  refine Gives.value (w' := w1) ?_ ⟨Chg.refl _ _, rfl⟩
                  go_simp
                · intro ρ w1 hw h0 hc hg hf hd
                  have d4 := hd ⟨4, .guard⟩ (by simp) rfl _ _ _ rfl rfl rfl
                  have s12 : ρ (.tmp 12) = .pointer (some ⟨g12, 0, none⟩) := h0 12 (by kernel_rfl)
                  refine ⟨fun _ => ?_, fun h => by rw [wantedBy_true rfl rfl rfl d4] at h; cases h⟩
                  clear d4
                  clear h0 hg hd
                  clear hc hf
                  have l0 := hw.cell A12.out (fun h => h)
                  refine Gives.value (w' := w1) ?_ ⟨Chg.refl _ _, rfl⟩
                  go_simp
                · intro ρ w1 hw h0 hc hg hf hd
                  have d5 := hd ⟨5, .data⟩ (by simp) rfl _ _ _ rfl rfl rfl
                  have d6 := hd ⟨6, .data⟩ (by simp) rfl _ _ _ rfl rfl rfl
                  have d4 := hd ⟨4, .guard⟩ (by simp) rfl _ _ _ rfl rfl rfl
                  refine ⟨fun _ => ?_, fun h => by rw [wantedBy_true rfl rfl rfl d4] at h; cases h⟩
                  clear d4
                  clear h0 hg hd
                  clear hf
                  refine Gives.value (w' := w1) ?_ ⟨Chg.refl _ _, rfl⟩
                  go_simp
                · intro ρ w1 hw h0 hc hg hf hd
                  have d7 := hd ⟨7, .data⟩ (by simp) rfl _ _ _ rfl rfl rfl
                  have d4 := hd ⟨4, .guard⟩ (by simp) rfl _ _ _ rfl rfl rfl
                  refine ⟨fun _ => ?_, fun h => by rw [wantedBy_true rfl rfl rfl d4] at h; cases h⟩
                  clear d4
                  clear h0 hg hd
                  clear hf
                  refine Gives.value (w' := w1) ?_ ⟨Chg.refl _ _, rfl⟩
                  go_simp
                · intro ρ w1 hw h0 hc hg hf hd
                  have d8 := hd ⟨8, .data⟩ (by simp) rfl _ _ _ rfl rfl rfl
                  have d4 := hd ⟨4, .guard⟩ (by simp) rfl _ _ _ rfl rfl rfl
                  refine ⟨fun _ => ?_, fun h => by rw [wantedBy_true rfl rfl rfl d4] at h; cases h⟩
                  clear d4
                  clear h0 hg hd
                  clear hc hf
                  have l0 := hw.cell ATJ.out (fun h => h)
                  refine Gives.value (w' := w1) ?_ ⟨Chg.refl _ _, rfl⟩
                  go_simp
                · intro ρ w1 hw h0 hc hg hf hd
                  have d4 := hd ⟨4, .guard⟩ (by simp) rfl _ _ _ rfl rfl rfl
                  have s3 : ρ (.tmp 3) = .pointer (some ⟨g3, 0, none⟩) := h0 3 (by kernel_rfl)
                  refine ⟨fun _ => ?_, fun h => by rw [wantedBy_true rfl rfl rfl d4] at h; cases h⟩
                  clear d4
                  clear h0 hg hd
                  clear hc hf
                  have l0 := hw.cell A3.out (fun h => h)
                  refine Gives.value (w' := w1) ?_ ⟨Chg.refl _ _, rfl⟩
                  go_simp
                · intro ρ w1 hw h0 hc hg hf hd
                  have d9 := hd ⟨9, .data⟩ (by simp) rfl _ _ _ rfl rfl rfl
                  have d10 := hd ⟨10, .data⟩ (by simp) rfl _ _ _ rfl rfl rfl
                  have d4 := hd ⟨4, .guard⟩ (by simp) rfl _ _ _ rfl rfl rfl
                  refine ⟨fun _ => ?_, fun h => by rw [wantedBy_true rfl rfl rfl d4] at h; cases h⟩
                  clear d4
                  clear h0 hg hd
                  clear hf
                  have hb := HBJ.out
                  refine Gives.value (w' := w1) ?_ ⟨Chg.refl _ _, rfl⟩
                  go_simp
                · intro ρ w1 hw h0 hc hg hf hd
                  have d4 := hd ⟨4, .data⟩ (by simp) rfl _ _ _ rfl rfl rfl
                  have d11 := hd ⟨11, .data⟩ (by simp) rfl _ _ _ rfl rfl rfl
                  refine ⟨fun _ => ?_, fun h => by cases h⟩
                  clear h0 hg hd
                  clear hf
                  refine Gives.value (w' := w1) ?_ ⟨Chg.refl _ _, rfl⟩
                  go_simp
              · intro vs w9 hw hr
                have h12 := hr 12 _ rfl
                clear hr
                dsimp only [putsL, restL]
                simp only [Act.put, List.setIfInBounds_toArray, List.set_cons_zero, List.set_cons_succ]
                rw [h12, HBE.out]
                have hc9 : Chg (fun i => i = g12) W w9 := (HCW.out.then (Chg.refl (fun _ => False) wb).drew (fun _ h => h.elim)).then hw (fun _ h => h.elim)
                have h129 := hw.heap (show wb.drew.heap[g12]? = _ from HN12.out) (fun h => h)
                have k12 := cell_of_row w9 g12 0 _ _ _ h129
                have z12 := frozen_of_row w9 g12 0 _ _ h129
                have HC9 := Lib.hid hc9
                have HN9 := Lib.hid h129
                clear hw h12 hc9 h129 HBE HBJ
                gi_wp2_with fail
                have hn12 := heap_setCell_same w9 g12 0 _ _ (.int .i64 ((j : Int) + 1)) HN9.out
                have hcn2 : cellN (w9.setCell ⟨g12, 0, none⟩ (.int .i64 ((j : Int) + 1))) g12 = j + 1 := by unfold cellN; rw [cell_of_row _ g12 0 _ _ _ hn12]; simp [intOf] <;> omega
                exact ⟨⟨j + 1, by omega, by omega, HC9.out.setCell ⟨g12, 0, none⟩ (.inl rfl) _, by rw [hn12]; simp⟩, by rw [hcn2, hcn]; omega⟩
            · obtain rfl : j = q := by omega
              rw [HYE.out] at s0 s1 s2
              dsimp only at s0 s1 s2
              obtain ⟨st, hst⟩ : ∃ s, strOfNums xs = s := ⟨_, rfl⟩
              rw [hst] at s2
              have hg14b := hcwd.heap HG14.out HNE.out.2
              have L0 : Hid (wb.drew.cell? ⟨g14, 0, none⟩ = some (.int .i64 f)) := Lib.hid (cell_of_row _ g14 0 _ _ _ hg14b)
              have L1 : Hid (wb.drew.cell? ⟨g14, 1, none⟩ = some (.int .i64 t)) := Lib.hid (cell_of_row _ g14 1 _ _ _ hg14b)
              have L2 : Hid (wb.drew.cell? ⟨g14, 2, none⟩ = some (.slice D3 xs.length c3)) := Lib.hid (cell_of_row _ g14 2 _ _ _ hg14b)
              have HD14 := Lib.hid hg14b
              have M0 := Lib.hid s0
              have M1 := Lib.hid s1
              have M2 := Lib.hid s2
              have HST := Lib.hid hst
              obtain ⟨tj, htj⟩ : ∃ x, t = x := ⟨_, rfl⟩
              obtain ⟨bj, hbj⟩ : ∃ b, b = false := ⟨_, rfl⟩
              have HBJ := Lib.hid (show (tj != who) = bj by rw [hbj, ← htj]; unfold bne; rw [HTB.out]; rfl)
              have ATJ : Hid (wb.drew.cell? ⟨gx, j * 3 + 1, none⟩ = some (.int .i64 tj)) := Lib.hid (by rw [← htj]; exact s1)
              have HBE := Lib.hid hbj
              have HXD := Lib.hid hxd
              have HCWD := Lib.hid hcwd
              clear s0 s1 s2 hxd hneg hcwd h12 hcw htj hbj hst hg14b
              gi_wp2_with fail
              refine MT.region_monoIn (wideF.round l) Up [fun v _ => v = .int .i64 (j : Int),
                  fun v _ => v = .slice (some ⟨gx, 0, none⟩) N cx,
                  fun v _ => v = .int .i64 (N : Int),
                  fun v _ => v = .bool true,
                  fun v _ => v = .bool true,
                  fun v _ => v = .slice (some ⟨gx, 0, none⟩) N cx,
                  fun v _ => v = .int .i64 (j : Int),
                  fun v _ => v = .pointer (some ⟨gx, j * 3, none⟩),
                  fun v _ => v = .pointer (some ⟨gx, j * 3 + 1, none⟩),
                  fun v _ => v = .int .i64 tj,
                  fun v _ => v = .int .i64 who,
                  fun v _ => v = .bool bj,
                  fun v _ => v = .bool bj] (by kernel_rfl) (by kernel_rfl) (by kernel_rfl) (Chg.refl _) (fun _ _ _ => Chg.trans) (by simp) ?_ ?_ ?_
              · simp only [List.forall_mem_cons]
                exact ⟨fun _ _ _ _ _ h => h, fun _ _ _ _ _ h => h, fun _ _ _ _ _ h => h, fun _ _ _ _ _ h => h, fun _ _ _ _ _ h => h, fun _ _ _ _ _ h => h, fun _ _ _ _ _ h => h, fun _ _ _ _ _ h => h, fun _ _ _ _ _ h => h, fun _ _ _ _ _ h => h, fun _ _ _ _ _ h => h, fun _ _ _ _ _ h => h, fun _ _ _ _ _ h => h, by simp⟩
              · refine ⟨?_, ?_, ?_, ?_, ?_, ?_, ?_, ?_, ?_, ?_, ?_, ?_, ?_, trivial⟩
                · intro ρ w1 hw h0 hc hg hf hd
                  have s12 : ρ (.tmp 12) = .pointer (some ⟨g12, 0, none⟩) := h0 12 (by kernel_rfl)
                  refine ⟨fun _ => ?_, fun h => by cases h⟩
                  clear h0 hg hd
                  clear hc hf
                  have l0 := hw.cell A12.out (fun h => h)
                  refine Gives.value (w' := w1) ?_ ⟨Chg.refl _ _, rfl⟩
                  go_simp
                · intro ρ w1 hw h0 hc hg hf hd
                  have s6 : ρ (.tmp 6) = .pointer (some ⟨g6, 0, none⟩) := h0 6 (by kernel_rfl)
                  refine ⟨fun _ => ?_, fun h => by cases h⟩
                  clear h0 hg hd
                  clear hc hf
                  have l0 := hw.cell A6.out (fun h => h)
                  refine Gives.value (w' := w1) ?_ ⟨Chg.refl _ _, rfl⟩
                  go_simp
                · intro ρ w1 hw h0 hc hg hf hd
                  have d1 := hd ⟨1, .data⟩ (by simp) rfl _ _ _ rfl rfl rfl
                  refine ⟨fun _ => ?_, fun h => by cases h⟩
                  clear h0 hg hd
                  clear hf
                  refine Gives.value (w' := w1) ?_ ⟨Chg.refl _ _, rfl⟩
                  go_simp
                · intro ρ w1 hw h0 hc hg hf hd
                  have d0 := hd ⟨0, .data⟩ (by simp) rfl _ _ _ rfl rfl rfl
                  have d2 := hd ⟨2, .data⟩ (by simp) rfl _ _ _ rfl rfl rfl
                  refine ⟨fun _ => ?_, fun h => by cases h⟩
                  clear h0 hg hd
                  clear hf
                  refine Gives.value (w' := w1) ?_ ⟨Chg.refl _ _, rfl⟩
                  go_simp
                · intro ρ w1 hw h0 hc hg hf hd
                  have d3 := hd ⟨3, .data⟩ (by simp) rfl _ _ _ rfl rfl rfl
                  refine ⟨fun _ => ?_, fun h => by cases h⟩
                  clear h0 hg hd
                  exact gives_move rfl ⟨Chg.refl _ _, d3⟩
                · intro ρ w1 hw h0 hc hg hf hd
                  have d4 := hd ⟨4, .guard⟩ (by simp) rfl _ _ _ rfl rfl rfl
                  have s6 : ρ (.tmp 6) = .pointer (some ⟨g6, 0, none⟩) := h0 6 (by kernel_rfl)
                  refine ⟨fun _ => ?_, fun h => by rw [wantedBy_true rfl rfl rfl d4] at h; cases h⟩
                  clear d4
                  clear h0 hg hd
                  clear hc hf
                  have l0 := hw.cell A6.out (fun h => h)
                  refine Gives.value (w' := w1) ?_ ⟨Chg.refl _ _, rfl⟩
                  go_simp
                · intro ρ w1 hw h0 hc hg hf hd
                  have d4 := hd ⟨4, .guard⟩ (by simp) rfl _ _ _ rfl rfl rfl
                  have s12 : ρ (.tmp 12) = .pointer (some ⟨g12, 0, none⟩) := h0 12 (by kernel_rfl)
                  refine ⟨fun _ => ?_, fun h => by rw [wantedBy_true rfl rfl rfl d4] at h; cases h⟩
                  clear d4
                  clear h0 hg hd
                  clear hc hf
                  have l0 := hw.cell A12.out (fun h => h)
                  refine Gives.value (w' := w1) ?_ ⟨Chg.refl _ _, rfl⟩
                  go_simp
                · intro ρ w1 hw h0 hc hg hf hd
                  have d5 := hd ⟨5, .data⟩ (by simp) rfl _ _ _ rfl rfl rfl
                  have d6 := hd ⟨6, .data⟩ (by simp) rfl _ _ _ rfl rfl rfl
                  have d4 := hd ⟨4, .guard⟩ (by simp) rfl _ _ _ rfl rfl rfl
                  refine ⟨fun _ => ?_, fun h => by rw [wantedBy_true rfl rfl rfl d4] at h; cases h⟩
                  clear d4
                  clear h0 hg hd
                  clear hf
                  refine Gives.value (w' := w1) ?_ ⟨Chg.refl _ _, rfl⟩
                  go_simp
                · intro ρ w1 hw h0 hc hg hf hd
                  have d7 := hd ⟨7, .data⟩ (by simp) rfl _ _ _ rfl rfl rfl
                  have d4 := hd ⟨4, .guard⟩ (by simp) rfl _ _ _ rfl rfl rfl
                  refine ⟨fun _ => ?_, fun h => by rw [wantedBy_true rfl rfl rfl d4] at h; cases h⟩
                  clear d4
                  clear h0 hg hd
                  clear hf
                  refine Gives.value (w' := w1) ?_ ⟨Chg.refl _ _, rfl⟩
                  go_simp
                · intro ρ w1 hw h0 hc hg hf hd
                  have d8 := hd ⟨8, .data⟩ (by simp) rfl _ _ _ rfl rfl rfl
                  have d4 := hd ⟨4, .guard⟩ (by simp) rfl _ _ _ rfl rfl rfl
                  refine ⟨fun _ => ?_, fun h => by rw [wantedBy_true rfl rfl rfl d4] at h; cases h⟩
                  clear d4
                  clear h0 hg hd
                  clear hc hf
                  have l0 := hw.cell ATJ.out (fun h => h)
                  refine Gives.value (w' := w1) ?_ ⟨Chg.refl _ _, rfl⟩
                  go_simp
                · intro ρ w1 hw h0 hc hg hf hd
                  have d4 := hd ⟨4, .guard⟩ (by simp) rfl _ _ _ rfl rfl rfl
                  have s3 : ρ (.tmp 3) = .pointer (some ⟨g3, 0, none⟩) := h0 3 (by kernel_rfl)
                  refine ⟨fun _ => ?_, fun h => by rw [wantedBy_true rfl rfl rfl d4] at h; cases h⟩
                  clear d4
                  clear h0 hg hd
                  clear hc hf
                  have l0 := hw.cell A3.out (fun h => h)
                  refine Gives.value (w' := w1) ?_ ⟨Chg.refl _ _, rfl⟩
                  go_simp
                · intro ρ w1 hw h0 hc hg hf hd
                  have d9 := hd ⟨9, .data⟩ (by simp) rfl _ _ _ rfl rfl rfl
                  have d10 := hd ⟨10, .data⟩ (by simp) rfl _ _ _ rfl rfl rfl
                  have d4 := hd ⟨4, .guard⟩ (by simp) rfl _ _ _ rfl rfl rfl
                  refine ⟨fun _ => ?_, fun h => by rw [wantedBy_true rfl rfl rfl d4] at h; cases h⟩
                  clear d4
                  clear h0 hg hd
                  clear hf
                  have hb := HBJ.out
                  refine Gives.value (w' := w1) ?_ ⟨Chg.refl _ _, rfl⟩
                  go_simp
                · intro ρ w1 hw h0 hc hg hf hd
                  have d4 := hd ⟨4, .data⟩ (by simp) rfl _ _ _ rfl rfl rfl
                  have d11 := hd ⟨11, .data⟩ (by simp) rfl _ _ _ rfl rfl rfl
                  refine ⟨fun _ => ?_, fun h => by cases h⟩
                  clear h0 hg hd
                  clear hf
                  refine Gives.value (w' := w1) ?_ ⟨Chg.refl _ _, rfl⟩
                  go_simp
              · intro vs w8 hw hr
                have h12 := hr 12 _ rfl
                clear hr
                dsimp only [putsL, restL]
                simp only [Act.put, List.setIfInBounds_toArray, List.set_cons_zero, List.set_cons_succ]
                rw [h12, HBE.out]
                have hup8 : Up wb.drew w8.drew := hw.drew
                have HW8 := Lib.hid hup8
                clear hw h12 HBE HBJ
                have A12 := Lib.hid (hup8.cell A12.out (fun h => h))
                have A6 := Lib.hid (hup8.cell A6.out (fun h => h))
                have L0 := Lib.hid (hup8.cell L0.out (fun h => h))
                have L1 := Lib.hid (hup8.cell L1.out (fun h => h))
                have L2 := Lib.hid (hup8.cell L2.out (fun h => h))
                have M0 := Lib.hid (hup8.cell M0.out (fun h => h))
                have M1 := Lib.hid (hup8.cell M1.out (fun h => h))
                have M2 := Lib.hid (hup8.cell M2.out (fun h => h))
                have HD9 : Hid (SlB w8.drew (.slice D3 xs.length c3) xs) := Lib.hid (DatB.slb (own_keep (own_keep HDAT.out (keep_of_chg HCWD.out (fun cur t fr hh => (cells_type HAT.out hh).symm)) (by decide)) (KeepBut.up g12 _ _ hup8) (by decide)))
                clear hup8
                gi_wp2_with fail
                refine MT.region_monoIn (wideF.round l) Up [fun v _ => v = .int .i64 (j : Int),
                    fun v _ => v = .slice (some ⟨gx, 0, none⟩) N cx,
                    fun v _ => v = .int .i64 (N : Int),
                    fun v _ => v = .bool false,
                    fun v _ => v = .bool false,
                    fun v _ => v = .int .i64 (j : Int),
                    fun v _ => v = .int .i64 (j : Int),
                    fun v _ => v = .bool false,
                    fun v _ => v = .bool false,
                    fun v _ => v = .bool false,
                    fun v _ => v = .agg #[.int .i64 f, .int .i64 t, .slice D3 xs.length c3],
                    fun v _ => v = .agg #[.int .i64 f, .int .i64 t, .string st],
                    fun v _ => v = .slice (some ⟨gx, 0, none⟩) N cx,
                    fun v _ => v = .int .i64 (j : Int),
                    fun v _ => v = .pointer (some ⟨gx, j * 3, none⟩),
                    fun v _ => v = .agg #[.int .i64 f, .int .i64 t, .string st],
                    fun v _ => v = .bool false,
                    fun v _ => v = .bool false] (by kernel_rfl) (by kernel_rfl) (by kernel_rfl) (Chg.refl _) (fun _ _ _ => Chg.trans) (by simp) ?_ ?_ ?_
                · simp only [List.forall_mem_cons]
                  exact ⟨fun _ _ _ _ _ h => h, fun _ _ _ _ _ h => h, fun _ _ _ _ _ h => h, fun _ _ _ _ _ h => h, fun _ _ _ _ _ h => h, fun _ _ _ _ _ h => h, fun _ _ _ _ _ h => h, fun _ _ _ _ _ h => h, fun _ _ _ _ _ h => h, fun _ _ _ _ _ h => h, fun _ _ _ _ _ h => h, fun _ _ _ _ _ h => h, fun _ _ _ _ _ h => h, fun _ _ _ _ _ h => h, fun _ _ _ _ _ h => h, fun _ _ _ _ _ h => h, fun _ _ _ _ _ h => h, fun _ _ _ _ _ h => h, by simp⟩
                · refine ⟨?_, ?_, ?_, ?_, ?_, ?_, ?_, ?_, ?_, ?_, ?_, ?_, ?_, ?_, ?_, ?_, ?_, ?_, trivial⟩
                  · intro ρ w1 hw h0 hc hg hf hd
                    have s12 : ρ (.tmp 12) = .pointer (some ⟨g12, 0, none⟩) := h0 12 (by kernel_rfl)
                    refine ⟨fun _ => ?_, fun h => by cases h⟩
                    clear h0 hg hd
                    clear hc hf
                    have l0 := hw.cell A12.out (fun h => h)
                    refine Gives.value (w' := w1) ?_ ⟨Chg.refl _ _, rfl⟩
                    go_simp
                  · intro ρ w1 hw h0 hc hg hf hd
                    have s6 : ρ (.tmp 6) = .pointer (some ⟨g6, 0, none⟩) := h0 6 (by kernel_rfl)
                    refine ⟨fun _ => ?_, fun h => by cases h⟩
                    clear h0 hg hd
                    clear hc hf
                    have l0 := hw.cell A6.out (fun h => h)
                    refine Gives.value (w' := w1) ?_ ⟨Chg.refl _ _, rfl⟩
                    go_simp
                  · intro ρ w1 hw h0 hc hg hf hd
                    have d1 := hd ⟨1, .data⟩ (by simp) rfl _ _ _ rfl rfl rfl
                    refine ⟨fun _ => ?_, fun h => by cases h⟩
                    clear h0 hg hd
                    clear hf
                    refine Gives.value (w' := w1) ?_ ⟨Chg.refl _ _, rfl⟩
                    go_simp
                  · intro ρ w1 hw h0 hc hg hf hd
                    have d0 := hd ⟨0, .data⟩ (by simp) rfl _ _ _ rfl rfl rfl
                    have d2 := hd ⟨2, .data⟩ (by simp) rfl _ _ _ rfl rfl rfl
                    refine ⟨fun _ => ?_, fun h => by cases h⟩
                    clear h0 hg hd
                    clear hf
                    refine Gives.value (w' := w1) ?_ ⟨Chg.refl _ _, rfl⟩
                    go_simp
                  · intro ρ w1 hw h0 hc hg hf hd
                    have d3 := hd ⟨3, .data⟩ (by simp) rfl _ _ _ rfl rfl rfl
                    refine ⟨fun _ => ?_, fun h => by cases h⟩
                    clear h0 hg hd
                    exact gives_move rfl ⟨Chg.refl _ _, d3⟩
                  · intro ρ w1 hw h0 hc hg hf hd
                    have d4 := hd ⟨4, .guard⟩ (by simp) rfl _ _ _ rfl rfl rfl
                    have s13 : ρ (.tmp 13) = .int .i64 (j : Int) := h0 13 (by kernel_rfl)
                    refine ⟨fun _ => ?_, fun h => by rw [wantedBy_true rfl rfl rfl d4] at h; cases h⟩
                    clear d4
                    clear h0 hg hd
                    exact gives_move rfl ⟨Chg.refl _ _, s13⟩
                  · intro ρ w1 hw h0 hc hg hf hd
                    have d4 := hd ⟨4, .guard⟩ (by simp) rfl _ _ _ rfl rfl rfl
                    have s12 : ρ (.tmp 12) = .pointer (some ⟨g12, 0, none⟩) := h0 12 (by kernel_rfl)
                    refine ⟨fun _ => ?_, fun h => by rw [wantedBy_true rfl rfl rfl d4] at h; cases h⟩
                    clear d4
                    clear h0 hg hd
                    clear hc hf
                    have l0 := hw.cell A12.out (fun h => h)
                    refine Gives.value (w' := w1) ?_ ⟨Chg.refl _ _, rfl⟩
                    go_simp
                  · intro ρ w1 hw h0 hc hg hf hd
                    have d5 := hd ⟨5, .data⟩ (by simp) rfl _ _ _ rfl rfl rfl
                    have d6 := hd ⟨6, .data⟩ (by simp) rfl _ _ _ rfl rfl rfl
                    have d4 := hd ⟨4, .guard⟩ (by simp) rfl _ _ _ rfl rfl rfl
                    refine ⟨fun _ => ?_, fun h => by rw [wantedBy_true rfl rfl rfl d4] at h; cases h⟩
                    clear d4
                    clear h0 hg hd
                    clear hf
                    refine Gives.value (w' := w1) ?_ ⟨Chg.refl _ _, rfl⟩
                    go_simp
                  · intro ρ w1 hw h0 hc hg hf hd
                    have d4 := hd ⟨4, .data⟩ (by simp) rfl _ _ _ rfl rfl rfl
                    have d7 := hd ⟨7, .data⟩ (by simp) rfl _ _ _ rfl rfl rfl
                    refine ⟨fun _ => ?_, fun h => by cases h⟩
                    clear h0 hg hd
                    clear hf
                    refine Gives.value (w' := w1) ?_ ⟨Chg.refl _ _, rfl⟩
                    go_simp
                  · intro ρ w1 hw h0 hc hg hf hd
                    have d8 := hd ⟨8, .data⟩ (by simp) rfl _ _ _ rfl rfl rfl
                    refine ⟨fun _ => ?_, fun h => by cases h⟩
                    clear h0 hg hd
                    exact gives_move rfl ⟨Chg.refl _ _, d8⟩
                  · intro ρ w1 hw h0 hc hg hf hd
                    have d9 := hd ⟨9, .guard⟩ (by simp) rfl _ _ _ rfl rfl rfl
                    have s14 : ρ (.tmp 14) = .pointer (some ⟨g14, 0, none⟩) := h0 14 (by kernel_rfl)
                    refine ⟨fun _ => ?_, fun h => by rw [wantedBy_true rfl rfl rfl d9] at h; cases h⟩
                    clear d9
                    clear h0 hg hd
                    clear hc hf
                    have l0 := hw.cell L0.out (fun h => h)
                    have l1 := hw.cell L1.out (fun h => h)
                    have l2 := hw.cell L2.out (fun h => h)
                    refine Gives.value (w' := w1) ?_ ⟨Chg.refl _ _, rfl⟩
                    go_simp
                  · intro ρ w1 hw h0 hc hg hf hd
                    have d10 := hd ⟨10, .data⟩ (by simp) rfl _ _ _ rfl rfl rfl
                    have d9 := hd ⟨9, .chain⟩ (by simp) rfl _ _ _ rfl rfl rfl
                    refine ⟨fun _ => ?_, fun h => by rw [wantedBy_true rfl rfl rfl d9] at h; cases h⟩
                    clear d9
                    clear h0 hg hd
                    have hcl := ref_any w1 f t (.slice D3 xs.length c3) xs (Src.chg HD9.out hw (fun _ _ _ h => h) (by decide))
                    unfold refV at hcl
                    dsimp only at hcl
                    rw [HST.out] at hcl
                    refine gives_call rfl hf Try.func21 rfl (by kernel_rfl) (args := #[.agg #[.int .i64 f, .int .i64 t, .slice D3 xs.length c3]]) (by simp [hc, d10]) (hcl.mono ?_)
                    rintro e w2 ⟨rfl, hb⟩
                    exact ⟨_, rfl, up_below hb, rfl⟩
                  · intro ρ w1 hw h0 hc hg hf hd
                    have d9 := hd ⟨9, .guard⟩ (by simp) rfl _ _ _ rfl rfl rfl
                    have s6 : ρ (.tmp 6) = .pointer (some ⟨g6, 0, none⟩) := h0 6 (by kernel_rfl)
                    refine ⟨fun _ => ?_, fun h => by rw [wantedBy_true rfl rfl rfl d9] at h; cases h⟩
                    clear d9
                    clear h0 hg hd
                    clear hc hf
                    have l0 := hw.cell A6.out (fun h => h)
                    refine Gives.value (w' := w1) ?_ ⟨Chg.refl _ _, rfl⟩
                    go_simp
                  · intro ρ w1 hw h0 hc hg hf hd
                    have d9 := hd ⟨9, .guard⟩ (by simp) rfl _ _ _ rfl rfl rfl
                    have s12 : ρ (.tmp 12) = .pointer (some ⟨g12, 0, none⟩) := h0 12 (by kernel_rfl)
                    refine ⟨fun _ => ?_, fun h => by rw [wantedBy_true rfl rfl rfl d9] at h; cases h⟩
                    clear d9
                    clear h0 hg hd
                    clear hc hf
                    have l0 := hw.cell A12.out (fun h => h)
                    refine Gives.value (w' := w1) ?_ ⟨Chg.refl _ _, rfl⟩
                    go_simp
                  · intro ρ w1 hw h0 hc hg hf hd
                    have d12 := hd ⟨12, .data⟩ (by simp) rfl _ _ _ rfl rfl rfl
                    have d13 := hd ⟨13, .data⟩ (by simp) rfl _ _ _ rfl rfl rfl
                    have d9 := hd ⟨9, .guard⟩ (by simp) rfl _ _ _ rfl rfl rfl
                    refine ⟨fun _ => ?_, fun h => by rw [wantedBy_true rfl rfl rfl d9] at h; cases h⟩
                    clear d9
                    clear h0 hg hd
                    clear hf
                    refine Gives.value (w' := w1) ?_ ⟨Chg.refl _ _, rfl⟩
                    go_simp
                  · intro ρ w1 hw h0 hc hg hf hd
                    have d14 := hd ⟨14, .data⟩ (by simp) rfl _ _ _ rfl rfl rfl
                    have d9 := hd ⟨9, .guard⟩ (by simp) rfl _ _ _ rfl rfl rfl
                    refine ⟨fun _ => ?_, fun h => by rw [wantedBy_true rfl rfl rfl d9] at h; cases h⟩
                    clear d9
                    clear h0 hg hd
                    clear hc hf
                    have l0 := hw.cell M0.out (fun h => h)
                    have l1 := hw.cell M1.out (fun h => h)
                    have l2 := hw.cell M2.out (fun h => h)
                    refine Gives.value (w' := w1) ?_ ⟨Chg.refl _ _, rfl⟩
                    go_simp
                  · intro ρ w1 hw h0 hc hg hf hd
                    have d11 := hd ⟨11, .data⟩ (by simp) rfl _ _ _ rfl rfl rfl
                    have d15 := hd ⟨15, .data⟩ (by simp) rfl _ _ _ rfl rfl rfl
                    have d9 := hd ⟨9, .guard⟩ (by simp) rfl _ _ _ rfl rfl rfl
                    refine ⟨fun _ => ?_, fun h => by rw [wantedBy_true rfl rfl rfl d9] at h; cases h⟩
                    clear d9
                    clear h0 hg hd
                    clear hf
                    have q1 := neq49 f t st w1
                    have q2 := guard49 .neq (.tmp 106) (.tmp 110) f t st w1
                    refine Gives.value (v := .bool false) (w' := w1) ?_ ⟨Chg.refl _ _, rfl⟩
                    unfold execOp
                    simp [d11, d15, q1, q2]
                  · intro ρ w1 hw h0 hc hg hf hd
                    have d9 := hd ⟨9, .data⟩ (by simp) rfl _ _ _ rfl rfl rfl
                    have d16 := hd ⟨16, .data⟩ (by simp) rfl _ _ _ rfl rfl rfl
                    refine ⟨fun _ => ?_, fun h => by cases h⟩
                    clear h0 hg hd
                    clear hf
                    refine Gives.value (w' := w1) ?_ ⟨Chg.refl _ _, rfl⟩
                    go_simp
                · intro vs w9 hw hr
                  have h17 := hr 17 _ rfl
                  clear hr
                  dsimp only [putsL, restL]
                  simp only [Act.put, List.setIfInBounds_toArray, List.set_cons_zero, List.set_cons_succ]
                  rw [h17]
                  have h129 := hw.heap (HW8.out.heap (show wb.drew.heap[g12]? = _ from HN12.out) (fun h => h)) (fun h => h)
                  have k12 := cell_of_row w9 g12 0 _ _ _ h129
                  have z12 := frozen_of_row w9 g12 0 _ _ h129
                  have HN9 := Lib.hid h129
                  have HC9 := Lib.hid (HCWD.out.then (HW8.out.trans hw) (fun i hi => hi.elim))
                  clear hw h17 h129
                  gi_wp2_with fail
                  have hn12 := heap_setCell_same w9 g12 0 _ _ (.int .i64 ((j : Int) + 1)) HN9.out
                  have hcf : Chg (fun i => i = g12) W (w9.setCell ⟨g12, 0, none⟩ (.int .i64 ((j : Int) + 1))) := HC9.out.setCell ⟨g12, 0, none⟩ (.inl rfl) _
                  exact ⟨Stays.of_chg hcf (fun k o hk hh => by subst hk; rw [HAT.out] at hh; cases hh; rfl), keep_of_chg hcf (fun cur t fr hh => (cells_type HAT.out hh).symm), HCHW.out.trans hcf, by rw [hn12, atOf_snoc]; simp⟩
        · rintro Dd ys W hDd hys ⟨hch, hat⟩ hK
          have hxw : XAt W 0 (.slice Bx N cx) L := own_chg HX4.out hch (fun k hk e => by
            subst e
            obtain ⟨c2, f2, hh⟩ := own_type HX4.out k hk
            rw [H12.out] at hh; cases hh)
          have h3w := hch.heap H3.out (by have := HG34.out; omega)
          have h4w := hch.heap H4.out (by have := HG34.out; omega)
          have h6w := hch.heap H6.out (by have := HG34.out; omega)
          have hale := atOf_le hys
          have hnone := fun j h1 h2 => atOf_none hys j h1 h2
          rw [HNN.out] at hale hnone
          have HXW := Lib.hid hxw
          have H3W := Lib.hid h3w
          have H4W := Lib.hid h4w
          have H6W := Lib.hid h6w
          have HAT := Lib.hid hat
          have HCHW := Lib.hid hch
          have HNONE := Lib.hid hnone
          have HK := Lib.hid hK
          have HDD := Lib.hid hDd
          clear hxw h3w h4w h6w hat hch hnone hK hys hDd
          gi_wp2_with fail
          gi_loopw [115] (fun _ wr => ∃ j : Nat, atOf ys ≤ j ∧ j ≤ N ∧ Chg (fun i => i = g12) W wr ∧ wr.heap[g12]? = some (.cells #[.int .i64 (j : Int)] 3 (0, 0))) (fun _ wr => N - cellN wr g12)
          case atStart => exact ⟨atOf ys, Nat.le_refl _, hale, Chg.refl _ _, HAT.out⟩
          case round =>
            rename World => wb
            obtain ⟨j, hj1, hj2, hcw, h12⟩ := hrel
            have hcwd : Chg (fun i => i = g12) W wb.drew := hcw.drew
            have hcn : cellN wb g12 = j := by unfold cellN; rw [cell_of_row wb g12 0 _ _ _ h12]; simp [intOf]
            have A12 : Hid (wb.drew.cell? ⟨g12, 0, none⟩ = some (.int .i64 (j : Int))) := Lib.hid (cell_of_row wb g12 0 _ _ _ h12)
            have hneg := HG34.out
            have A6 : Hid (wb.drew.cell? ⟨g6, 0, none⟩ = some (.slice Bx N cx)) := Lib.hid (cell_of_row _ g6 0 _ _ _ (hcwd.heap H6W.out (by omega)))
            have A3 : Hid (wb.drew.cell? ⟨g3, 0, none⟩ = some (.int .i64 who)) := Lib.hid (cell_of_row _ g3 0 _ _ _ (hcwd.heap H3W.out (by omega)))
            have HN12 := Lib.hid h12
            have HCW := Lib.hid hcw
            by_cases hjq : j < N
            · have hjL : j < L.length := by rw [HNN.out]; omega
              obtain ⟨gx, rfl⟩ : ∃ g, Bx = some ⟨g, 0, none⟩ := by
                rcases HXW.out.2 with ⟨_, hz⟩ | ⟨g, cap, cur, he, _⟩
                · omega
                · injection he with e1; exact ⟨g, e1⟩
              have hxd : XAt wb.drew 0 (.slice (some ⟨gx, 0, none⟩) N cx) L := own_chg HXW.out hcwd (fun k hk e => by
                subst e
                obtain ⟨c2, f2, hh⟩ := own_type HXW.out k hk
                exact absurd (cells_type HAT.out hh) (by decide))
              obtain ⟨s0, s1, s2⟩ := hxd.cells j hjL
              have hb : ((L.getD j default).2.1 == who) = false := HNONE.out j hj1 hjq
              obtain ⟨tj, htj⟩ : ∃ x, (L.getD j default).2.1 = x := ⟨_, rfl⟩
              rw [htj] at s1 hb
              obtain ⟨bj, hbj⟩ : ∃ b, b = true := ⟨_, rfl⟩
              have HBJ := Lib.hid (show (tj != who) = bj by rw [hbj]; unfold bne; rw [hb]; rfl)
              have ATJ := Lib.hid s1
              have HBE := Lib.hid hbj
              clear s0 s1 s2 hxd hneg hcwd h12 hcw hb htj hbj
              gi_wp2_with fail
              refine MT.region_monoIn wideF Up [fun v _ => v = .int .i64 (j : Int),
                  fun v _ => v = .slice (some ⟨gx, 0, none⟩) N cx,
                  fun v _ => v = .int .i64 (N : Int),
                  fun v _ => v = .bool true,
                  fun v _ => v = .bool true,
                  fun v _ => v = .slice (some ⟨gx, 0, none⟩) N cx,
                  fun v _ => v = .int .i64 (j : Int),
                  fun v _ => v = .pointer (some ⟨gx, j * 3, none⟩),
                  fun v _ => v = .pointer (some ⟨gx, j * 3 + 1, none⟩),
                  fun v _ => v = .int .i64 tj,
                  fun v _ => v = .int .i64 who,
                  fun v _ => v = .bool bj,
                  fun v _ => v = .bool bj] (by kernel_rfl) (by kernel_rfl) (by kernel_rfl) (Chg.refl _) (fun _ _ _ => Chg.trans) (by simp) ?_ ?_ ?_
              · simp only [List.forall_mem_cons]
                exact ⟨fun _ _ _ _ _ h => h, fun _ _ _ _ _ h => h, fun _ _ _ _ _ h => h, fun _ _ _ _ _ h => h, fun _ _ _ _ _ h => h, fun _ _ _ _ _ h => h, fun _ _ _ _ _ h => h, fun _ _ _ _ _ h => h, fun _ _ _ _ _ h => h, fun _ _ _ _ _ h => h, fun _ _ _ _ _ h => h, fun _ _ _ _ _ h => h, fun _ _ _ _ _ h => h, by simp⟩
              · refine ⟨?_, ?_, ?_, ?_, ?_, ?_, ?_, ?_, ?_, ?_, ?_, ?_, ?_, trivial⟩
                · intro ρ w1 hw h0 hc hg hf hd
                  have s12 : ρ (.tmp 12) = .pointer (some ⟨g12, 0, none⟩) := h0 12 (by kernel_rfl)
                  refine ⟨fun _ => ?_, fun h => by cases h⟩
                  clear h0 hg hd
                  clear hc hf
                  have l0 := hw.cell A12.out (fun h => h)
                  refine Gives.value (w' := w1) ?_ ⟨Chg.refl _ _, rfl⟩
                  go_simp
                · intro ρ w1 hw h0 hc hg hf hd
                  have s6 : ρ (.tmp 6) = .pointer (some ⟨g6, 0, none⟩) := h0 6 (by kernel_rfl)
                  refine ⟨fun _ => ?_, fun h => by cases h⟩
                  clear h0 hg hd
                  clear hc hf
                  have l0 := hw.cell A6.out (fun h => h)
                  refine Gives.value (w' := w1) ?_ ⟨Chg.refl _ _, rfl⟩
                  go_simp
                · intro ρ w1 hw h0 hc hg hf hd
                  have d1 := hd ⟨1, .data⟩ (by simp) rfl _ _ _ rfl rfl rfl
                  refine ⟨fun _ => ?_, fun h => by cases h⟩
                  clear h0 hg hd
                  clear hf
                  refine Gives.value (w' := w1) ?_ ⟨Chg.refl _ _, rfl⟩
                  go_simp
                · intro ρ w1 hw h0 hc hg hf hd
                  have d0 := hd ⟨0, .data⟩ (by simp) rfl _ _ _ rfl rfl rfl
                  have d2 := hd ⟨2, .data⟩ (by simp) rfl _ _ _ rfl rfl rfl
                  refine ⟨fun _ => ?_, fun h => by cases h⟩
                  clear h0 hg hd
                  clear hf
                  refine Gives.value (w' := w1) ?_ ⟨Chg.refl _ _, rfl⟩
                  go_simp
                · intro ρ w1 hw h0 hc hg hf hd
                  have d3 := hd ⟨3, .data⟩ (by simp) rfl _ _ _ rfl rfl rfl
                  refine ⟨fun _ => ?_, fun h => by cases h⟩
                  clear h0 hg hd
                  exact gives_move rfl ⟨Chg.refl _ _, d3⟩
                · intro ρ w1 hw h0 hc hg hf hd
                  have d4 := hd ⟨4, .guard⟩ (by simp) rfl _ _ _ rfl rfl rfl
                  have s6 : ρ (.tmp 6) = .pointer (some ⟨g6, 0, none⟩) := h0 6 (by kernel_rfl)
                  refine ⟨fun _ => ?_, fun h => by rw [wantedBy_true rfl rfl rfl d4] at h; cases h⟩
                  clear d4
                  clear h0 hg hd
                  clear hc hf
                  have l0 := hw.cell A6.out (fun h => h)
                  refine Gives.value (w' := w1) ?_ ⟨Chg.refl _ _, rfl⟩
                  go_simp
                · intro ρ w1 hw h0 hc hg hf hd
                  have d4 := hd ⟨4, .guard⟩ (by simp) rfl _ _ _ rfl rfl rfl
                  have s12 : ρ (.tmp 12) = .pointer (some ⟨g12, 0, none⟩) := h0 12 (by kernel_rfl)
                  refine ⟨fun _ => ?_, fun h => by rw [wantedBy_true rfl rfl rfl d4] at h; cases h⟩
                  clear d4
                  clear h0 hg hd
                  clear hc hf
                  have l0 := hw.cell A12.out (fun h => h)
                  refine Gives.value (w' := w1) ?_ ⟨Chg.refl _ _, rfl⟩
                  go_simp
                · intro ρ w1 hw h0 hc hg hf hd
                  have d5 := hd ⟨5, .data⟩ (by simp) rfl _ _ _ rfl rfl rfl
                  have d6 := hd ⟨6, .data⟩ (by simp) rfl _ _ _ rfl rfl rfl
                  have d4 := hd ⟨4, .guard⟩ (by simp) rfl _ _ _ rfl rfl rfl
                  refine ⟨fun _ => ?_, fun h => by rw [wantedBy_true rfl rfl rfl d4] at h; cases h⟩
                  clear d4
                  clear h0 hg hd
                  clear hf
                  refine Gives.value (w' := w1) ?_ ⟨Chg.refl _ _, rfl⟩
                  go_simp
                · intro ρ w1 hw h0 hc hg hf hd
                  have d7 := hd ⟨7, .data⟩ (by simp) rfl _ _ _ rfl rfl rfl
                  have d4 := hd ⟨4, .guard⟩ (by simp) rfl _ _ _ rfl rfl rfl
                  refine ⟨fun _ => ?_, fun h => by rw [wantedBy_true rfl rfl rfl d4] at h; cases h⟩
                  clear d4
                  clear h0 hg hd
                  clear hf
                  refine Gives.value (w' := w1) ?_ ⟨Chg.refl _ _, rfl⟩
                  go_simp
                · intro ρ w1 hw h0 hc hg hf hd
                  have d8 := hd ⟨8, .data⟩ (by simp) rfl _ _ _ rfl rfl rfl
                  have d4 := hd ⟨4, .guard⟩ (by simp) rfl _ _ _ rfl rfl rfl
                  refine ⟨fun _ => ?_, fun h => by rw [wantedBy_true rfl rfl rfl d4] at h; cases h⟩
                  clear d4
                  clear h0 hg hd
                  clear hc hf
                  have l0 := hw.cell ATJ.out (fun h => h)
                  refine Gives.value (w' := w1) ?_ ⟨Chg.refl _ _, rfl⟩
                  go_simp
                · intro ρ w1 hw h0 hc hg hf hd
                  have d4 := hd ⟨4, .guard⟩ (by simp) rfl _ _ _ rfl rfl rfl
                  have s3 : ρ (.tmp 3) = .pointer (some ⟨g3, 0, none⟩) := h0 3 (by kernel_rfl)
                  refine ⟨fun _ => ?_, fun h => by rw [wantedBy_true rfl rfl rfl d4] at h; cases h⟩
                  clear d4
                  clear h0 hg hd
                  clear hc hf
                  have l0 := hw.cell A3.out (fun h => h)
                  refine Gives.value (w' := w1) ?_ ⟨Chg.refl _ _, rfl⟩
                  go_simp
                · intro ρ w1 hw h0 hc hg hf hd
                  have d9 := hd ⟨9, .data⟩ (by simp) rfl _ _ _ rfl rfl rfl
                  have d10 := hd ⟨10, .data⟩ (by simp) rfl _ _ _ rfl rfl rfl
                  have d4 := hd ⟨4, .guard⟩ (by simp) rfl _ _ _ rfl rfl rfl
                  refine ⟨fun _ => ?_, fun h => by rw [wantedBy_true rfl rfl rfl d4] at h; cases h⟩
                  clear d4
                  clear h0 hg hd
                  clear hf
                  have hb := HBJ.out
                  refine Gives.value (w' := w1) ?_ ⟨Chg.refl _ _, rfl⟩
                  go_simp
                · intro ρ w1 hw h0 hc hg hf hd
                  have d4 := hd ⟨4, .data⟩ (by simp) rfl _ _ _ rfl rfl rfl
                  have d11 := hd ⟨11, .data⟩ (by simp) rfl _ _ _ rfl rfl rfl
                  refine ⟨fun _ => ?_, fun h => by cases h⟩
                  clear h0 hg hd
                  clear hf
                  refine Gives.value (w' := w1) ?_ ⟨Chg.refl _ _, rfl⟩
                  go_simp
              · intro vs w9 hw hr
                have h12 := hr 12 _ rfl
                clear hr
                dsimp only [putsL, restL]
                simp only [Act.put, List.setIfInBounds_toArray, List.set_cons_zero, List.set_cons_succ]
                rw [h12, HBE.out]
                have hc9 : Chg (fun i => i = g12) W w9 := (HCW.out.then (Chg.refl (fun _ => False) wb).drew (fun _ h => h.elim)).then hw (fun _ h => h.elim)
                have h129 := hw.heap (show wb.drew.heap[g12]? = _ from HN12.out) (fun h => h)
                have k12 := cell_of_row w9 g12 0 _ _ _ h129
                have z12 := frozen_of_row w9 g12 0 _ _ h129
                have HC9 := Lib.hid hc9
                have HN9 := Lib.hid h129
                clear hw h12 hc9 h129 HBE HBJ
                gi_wp2_with fail
                have hn12 := heap_setCell_same w9 g12 0 _ _ (.int .i64 ((j : Int) + 1)) HN9.out
                have hcn2 : cellN (w9.setCell ⟨g12, 0, none⟩ (.int .i64 ((j : Int) + 1))) g12 = j + 1 := by unfold cellN; rw [cell_of_row _ g12 0 _ _ _ hn12]; simp [intOf] <;> omega
                exact ⟨⟨j + 1, by omega, by omega, HC9.out.setCell ⟨g12, 0, none⟩ (.inl rfl) _, by rw [hn12]; simp⟩, by rw [hcn2, hcn]; omega⟩
            · obtain rfl : j = N := by omega
              have H4B := Lib.hid (hcwd.heap H4W.out (by omega))
              have HKB := Lib.hid (hcwd.heap HK.out (by have := HDD.out; omega))
              have HCWD := Lib.hid hcwd
              clear hneg hcwd h12 hcw
              gi_wp2_with fail
              refine MT.region_monoIn wideF Up [fun v _ => v = .int .i64 (j : Int),
                  fun v _ => v = .slice Bx j cx,
                  fun v _ => v = .int .i64 (j : Int),
                  fun v _ => v = .bool false,
                  fun v _ => v = .bool false,
                  fun _ _ => True,
                  fun _ _ => True,
                  fun _ _ => True,
                  fun _ _ => True,
                  fun _ _ => True,
                  fun _ _ => True,
                  fun _ _ => True,
                  fun v _ => v = .bool false] (by kernel_rfl) (by kernel_rfl) (by kernel_rfl) (Chg.refl _) (fun _ _ _ => Chg.trans) (by simp) ?_ ?_ ?_
              · simp only [List.forall_mem_cons]
                exact ⟨fun _ _ _ _ _ h => h, fun _ _ _ _ _ h => h, fun _ _ _ _ _ h => h, fun _ _ _ _ _ h => h, fun _ _ _ _ _ h => h, fun _ _ _ _ _ h => h, fun _ _ _ _ _ h => h, fun _ _ _ _ _ h => h, fun _ _ _ _ _ h => h, fun _ _ _ _ _ h => h, fun _ _ _ _ _ h => h, fun _ _ _ _ _ h => h, fun _ _ _ _ _ h => h, by simp⟩
              · refine ⟨?_, ?_, ?_, ?_, ?_, ?_, ?_, ?_, ?_, ?_, ?_, ?_, ?_, trivial⟩
                · intro ρ w1 hw h0 hc hg hf hd
                  have s12 : ρ (.tmp 12) = .pointer (some ⟨g12, 0, none⟩) := h0 12 (by kernel_rfl)
                  refine ⟨fun _ => ?_, fun h => by cases h⟩
                  clear h0 hg hd
                  clear hc hf
                  have l0 := hw.cell A12.out (fun h => h)
                  refine Gives.value (w' := w1) ?_ ⟨Chg.refl _ _, rfl⟩
                  go_simp
                · intro ρ w1 hw h0 hc hg hf hd
                  have s6 : ρ (.tmp 6) = .pointer (some ⟨g6, 0, none⟩) := h0 6 (by kernel_rfl)
                  refine ⟨fun _ => ?_, fun h => by cases h⟩
                  clear h0 hg hd
                  clear hc hf
                  have l0 := hw.cell A6.out (fun h => h)
                  refine Gives.value (w' := w1) ?_ ⟨Chg.refl _ _, rfl⟩
                  go_simp
                · intro ρ w1 hw h0 hc hg hf hd
                  have d1 := hd ⟨1, .data⟩ (by simp) rfl _ _ _ rfl rfl rfl
                  refine ⟨fun _ => ?_, fun h => by cases h⟩
                  clear h0 hg hd
                  clear hf
                  refine Gives.value (w' := w1) ?_ ⟨Chg.refl _ _, rfl⟩
                  go_simp
                · intro ρ w1 hw h0 hc hg hf hd
                  have d0 := hd ⟨0, .data⟩ (by simp) rfl _ _ _ rfl rfl rfl
                  have d2 := hd ⟨2, .data⟩ (by simp) rfl _ _ _ rfl rfl rfl
                  refine ⟨fun _ => ?_, fun h => by cases h⟩
                  clear h0 hg hd
                  clear hf
                  refine Gives.value (w' := w1) ?_ ⟨Chg.refl _ _, rfl⟩
                  go_simp
                · intro ρ w1 hw h0 hc hg hf hd
                  have d3 := hd ⟨3, .data⟩ (by simp) rfl _ _ _ rfl rfl rfl
                  refine ⟨fun _ => ?_, fun h => by cases h⟩
                  clear h0 hg hd
                  exact gives_move rfl ⟨Chg.refl _ _, d3⟩
                · intro ρ w1 hw h0 hc hg hf hd
                  have d4 := hd ⟨4, .guard⟩ (by simp) rfl _ _ _ rfl rfl rfl
                  exact ⟨fun hx => (by rw [wantedBy_false rfl rfl rfl d4] at hx; cases hx), fun _ => trivial⟩
                · intro ρ w1 hw h0 hc hg hf hd
                  have d4 := hd ⟨4, .guard⟩ (by simp) rfl _ _ _ rfl rfl rfl
                  exact ⟨fun hx => (by rw [wantedBy_false rfl rfl rfl d4] at hx; cases hx), fun _ => trivial⟩
                · intro ρ w1 hw h0 hc hg hf hd
                  have d4 := hd ⟨4, .guard⟩ (by simp) rfl _ _ _ rfl rfl rfl
                  exact ⟨fun hx => (by rw [wantedBy_false rfl rfl rfl d4] at hx; cases hx), fun _ => trivial⟩
                · intro ρ w1 hw h0 hc hg hf hd
                  have d4 := hd ⟨4, .guard⟩ (by simp) rfl _ _ _ rfl rfl rfl
                  exact ⟨fun hx => (by rw [wantedBy_false rfl rfl rfl d4] at hx; cases hx), fun _ => trivial⟩
                · intro ρ w1 hw h0 hc hg hf hd
                  have d4 := hd ⟨4, .guard⟩ (by simp) rfl _ _ _ rfl rfl rfl
                  exact ⟨fun hx => (by rw [wantedBy_false rfl rfl rfl d4] at hx; cases hx), fun _ => trivial⟩
                · intro ρ w1 hw h0 hc hg hf hd
                  have d4 := hd ⟨4, .guard⟩ (by simp) rfl _ _ _ rfl rfl rfl
                  exact ⟨fun hx => (by rw [wantedBy_false rfl rfl rfl d4] at hx; cases hx), fun _ => trivial⟩
                · intro ρ w1 hw h0 hc hg hf hd
                  have d4 := hd ⟨4, .guard⟩ (by simp) rfl _ _ _ rfl rfl rfl
                  exact ⟨fun hx => (by rw [wantedBy_false rfl rfl rfl d4] at hx; cases hx), fun _ => trivial⟩
                · intro ρ w1 hw h0 hc hg hf hd
                  have d4 := hd ⟨4, .data⟩ (by simp) rfl _ _ _ rfl rfl rfl
                  have d11 := hd ⟨11, .data⟩ (by simp) rfl _ _ _ rfl rfl rfl
                  refine ⟨fun _ => ?_, fun h => by cases h⟩
                  clear h0 hg hd
                  clear hf
                  refine Gives.value (w' := w1) ?_ ⟨Chg.refl _ _, rfl⟩
                  go_simp
              · intro vs w9 hw hr
                have h12 := hr 12 _ rfl
                clear hr
                dsimp only [putsL, restL]
                simp only [Act.put, List.setIfInBounds_toArray, List.set_cons_zero, List.set_cons_succ]
                rw [h12]
                have m12 := hw.cell A12.out (fun h => h)
                have m6 := hw.cell A6.out (fun h => h)
                have HW9 := Lib.hid hw
                have HAW := Lib.hid (awake_any w9)
                clear hw h12
                gi_wp2_with fail
                refine ⟨trivial, ?_⟩
                refine (callsIn_wide.2 HAW.out).mono ?_
                rintro e W10 ⟨rfl, hb10⟩
                have hu10 : Up wb.drew W10 := HW9.out.trans (up_below hb10)
                have h410 := hu10.heap H4B.out (fun h => h)
                have hk10 := hu10.heap HKB.out (fun h => h)
                have b4 := cell_of_row W10 g4 0 _ _ _ h410
                have f4 := frozen_of_row W10 g4 0 _ _ h410
                have HU10 := Lib.hid hu10
                have H410 := Lib.hid h410
                have HK10 := Lib.hid hk10
                clear hb10 hu10 h410 hk10 m12 m6
                gi_wp2_with fail
                have hs4 := heap_setCell_same W10 g4 0 _ _ (.bool true) H410.out
                have hDg : Dd ≠ g4 := fun e => by subst e; have := HK10.out; rw [H410.out] at this; cases this
                have hkd : (W10.setCell ⟨g4, 0, none⟩ (.bool true)).heap[Dd]? = some (.deferred (some [])) := (heap_setCell_other W10 ⟨g4, 0, none⟩ Dd (.bool true) hDg).trans HK10.out
                refine ⟨by simp, .inl ⟨_, _, rfl, run_takeDeferred hkd, ?_⟩⟩
                refine ⟨_, results_cell_bool rfl _ _ g4 true (by rfl) (cell_of_row _ g4 0 _ _ _ ((World.putObj_heap_other (fun e => hDg e.symm)).trans hs4)), rfl, ?_⟩
                have hall : Chg (fun i => w.heap.size ≤ i) w W10 := ((HCH.out.then HCHW.out (fun i hi => .inl (by have := HG34.out; omega))).then HCWD.out (fun i hi => .inl (by have := HG34.out; omega))).then HU10.out (fun i hi => hi.elim)
                have hzW := HCH.out.size
                exact (((hall.setCell ⟨g4, 0, none⟩ (.inl (by have := HG34.out; simp; omega)) _).putObj Dd (.inl (by have := HDD.out; omega)) _).below (Nat.le_refl _) (fun i hi => hi))
end Go.Proofs.Ytofmblkmfbioiaa
