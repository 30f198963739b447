/-
  The digits of a hash, walked.
-/
import Derived.Test.YtaahffminoekfaaDoorY1
import Derived.Test.YtaahffminoekfaaDoorX3
import Derived.Test.YtaahffminoekfaaDoorT9
namespace Go.Proofs.YtaahffminoekfaaDoor
open Go.RowKit Go.Shelf
attribute [local go_sem] Oper.semAt_some
def sgs (l : List Int) : Int := l.foldl (fun s x => wrap64 (s + wrap64 (15 - x))) 0
theorem sgs_snoc (l : List Int) (x : Int) : sgs (l ++ [x]) = wrap64 (sgs l + wrap64 (15 - x)) := by simp [sgs]
/-- The sum of what the digits lack. -/
def lackI (h : List Int) : Nat → Int
  | 0 => 0
  | n + 1 => lackI h n + (15 - dgI h n)
theorem lack_bd (h : List Int) (hb : Bytes h) (n : Nat) : 0 ≤ lackI h n ∧ lackI h n ≤ 15 * n := by
  induction n with
  | zero => simp [lackI]
  | succ n ih => have := dgI_bd h hb n; simp only [lackI]; omega
theorem sgs_dgs (h : List Int) (hb : Bytes h) (n : Nat) (hn : n ≤ 64) : sgs (dgs h n) = lackI h n := by
  induction n with
  | zero => rfl
  | succ n ih =>
    rw [dgs_succ, sgs_snoc, ih (by omega)]
    have := dgI_bd h hb n
    have := lack_bd h hb n
    have e1 : wrap64 (15 - dgI h n) = 15 - dgI h n := by unfold wrap64; omega
    rw [e1]
    simp only [lackI]
    unfold wrap64
    omega
def digitsI (h : List Int) : List Int := dgs h 64 ++ [lackI h 64 / 256, lackI h 64 / 16 % 16, lackI h 64 % 16]
theorem kept_cells {W W' : World} {row : Option Nat} {C b : Nat} {cs : Array Value} {t : TypeId} (hb : W.heap[b]? = some (.cells cs t (0, 0))) (hg : W.grownBy W' row) (hr : ∀ r, row = some r → C ≤ r ∧ ∃ o : Obj, W.heap[r]? = some o ∧ o.isCells = false) : W'.heap[b]? = some (.cells cs t (0, 0)) := by
  refine (hg.block b (Array.getElem?_eq_some_iff.1 hb).1 (fun h => ?_)).trans hb
  obtain ⟨_, o, ho, hc⟩ := hr b h.symm
  rw [hb] at ho
  cases ho
  cases hc
theorem kept_own {W W' : World} {row : Option Nat} {C base n : Nat} {e : TypeId} {v : Value} {xs : List Value} (h : W.ownsRow base e 1 v n xs) (hg : W.grownBy W' row) (hr : ∀ r, row = some r → C ≤ r ∧ ∃ o : Obj, W.heap[r]? = some o ∧ o.isCells = false) : W'.ownsRow base e 1 v n xs := by
  refine ⟨h.1, ?_⟩
  rcases h.2 with hn | ⟨g, cap, cur, rfl, hb, hg', hrest⟩
  · exact .inl hn
  · exact .inr ⟨g, cap, cur, rfl, hb, kept_cells hg' hg hr, hrest⟩
/-- What holds between two rounds. -/
structure DigSt (n₀ B1 B2 : Nat) (w : World) (pre : List Int) (W : World) : Prop where
  out : ∃ v, Boxed W B1 55 v ∧ W.ownsRow n₀ 3 1 v pre.length (i64s pre) ∧ v.ownBlock ≠ some B2
  sum : Boxed W B2 3 (.int .i64 (sgs pre))
  low : Below n₀ w W
theorem digSt_own (n₀ B1 B2 : Nat) (w : World) (C : Nat) (hn : n₀ ≤ w.heap.size) (hC : n₀ ≤ C) : OwnFrom C (DigSt n₀ B1 B2 w) := by
  intro s W W' row hs hg hr
  obtain ⟨v, hv, ho, hf⟩ := hs.out
  exact ⟨⟨v, kept_cells hv hg hr, kept_own ho hg hr, hf⟩, kept_cells hs.sum hg hr, ownFrom_below (β := Unit) hn hC () W W' row hs.low hg hr⟩
theorem keeps_of_own {W W' : World} {base n : Nat} {e : TypeId} {v : Value} {xs : List Value} (h : W.ownsRow base e 1 v n xs) (hc : Chg (fun k => v.ownBlock = some k) W W') : KeepsOthers W W' := by
  refine ⟨hc.size, fun k o ho hn => (hc.block k (Array.getElem?_eq_some_iff.1 ho).1 (fun hk => ?_)).trans ho⟩
  rcases h.2 with ⟨rfl, _⟩ | ⟨g, cap, cur, rfl, _, hg, _⟩
  · simp [Value.ownBlock] at hk
  · obtain rfl : g = k := by simpa [Value.ownBlock] using hk
    rw [hg] at ho
    cases ho
    cases hn
theorem below_of_own {n₀ : Nat} {W W' : World} {base n : Nat} {e : TypeId} {v : Value} {xs : List Value} (h : W.ownsRow base e 1 v n xs) (hc : Chg (fun k => v.ownBlock = some k) W W') (hb : n₀ ≤ base) (hs : n₀ ≤ W.heap.size) : Below n₀ W W' :=
  hc.below hs (fun i hi => by have := (h.lt i hi).1; omega)
theorem boxed_other {W : World} {B B' : Nat} {t : TypeId} {v u : Value} (h : Boxed W B t v) (hne : B ≠ B') : Boxed (W.setCell ⟨B', 0, none⟩ u) B t v :=
  (Below.heap_setCell W _ u B (by simpa using hne)).trans h
set_option maxRecDepth 100000 in
set_option maxHeartbeats 2000000 in
theorem digits_any (h : List Int) (hl : h.length = 32) (hb : Bytes h) (w : World) :
    Calls Tryd.prog 44 #[hashV h] w (fun e W' => ∃ v, e = .returned v ∧ W'.ownsRow w.heap.size 3 1 v 67 (i64s (digitsI h)) ∧ Below w.heap.size w W') := by
  obtain ⟨cx, hcx, hux, _, _, hsz, _⟩ := hash_parts h hl
  rw [hcx]
  refine (callsIn_wide (n := 5)).1 ?_
  have HL := Lib.hid hl
  have HBY := Lib.hid hb
  have HSZ := Lib.hid hsz
  have HUX := Lib.hid hux
  clear hl hb hux hsz hcx
  have hm : ∀ W : World, (Instr.makeSlice 55 (.int .i64 0) (.int .i64 67)).run Tryd.prog W = .ok (.slice (some ⟨W.heap.size, 0, none⟩) 0 67) (W.alloc (.cells (Array.replicate 67 (.int .i64 0)) 3)) := fun W => by kernel_rfl
  obtain ⟨z67, hz67⟩ : ∃ z, Array.replicate 67 (Value.int .i64 0) = z := ⟨_, rfl⟩
  rw [hz67] at hm
  have HZ67 := Lib.hid hz67
  clear hz67
  refine callsIn_of_wp_marks Tryd.func44 rfl trivial ?_ rfl
  simp only [Tryd.ntmps44, List.size_toArray, List.length_cons, List.length_nil, Nat.reduceAdd, Nat.reduceSub, Array.replicate_succ, Array.replicate_zero, List.push_toArray, List.append_toArray, List.nil_append, List.cons_append]
  have hgl : (((((w.alloc (.cells cx 25)).alloc (.cells z67 3)).alloc (.cells #[.slice (some ⟨w.heap.size + 1, 0, none⟩) 0 67] 55)).alloc (.cells #[.int .i64 0] 3))).heap[w.heap.size]? = some (.cells cx 25 (0, 0)) :=
    (Below.heap_alloc _ _ _ (by simp; omega)).trans ((Below.heap_alloc _ _ _ (by simp; omega)).trans ((Below.heap_alloc _ _ _ (by simp)).trans (heap_alloc_last _ _)))
  have HGL := Lib.hid hgl
  clear hgl
  gi_wp2_with (refine wpListIn_gives wideF rfl (fun c hc => by cases hc) (Φ := fun v W' => v = .agg cx ∧ W' = _) (gv_load_row rfl rfl HGL.out Tryd.underlying25 rfl HSZ.out ⟨rfl, rfl⟩) ?_; rintro v W' ⟨rfl, rfl⟩)
  refine ⟨trivial, ?_⟩
  refine (halves_in _ cx _).mono ?_
  rintro e W1 ⟨rfl, hW1⟩
  obtain ⟨W3, hW3⟩ : ∃ W3, W3 = ((((w.alloc (.cells cx 25)).alloc (.cells z67 3)).alloc (.cells #[.slice (some ⟨w.heap.size + 1, 0, none⟩) 0 67] 55)).alloc (.cells #[.int .i64 0] 3)) := ⟨_, rfl⟩
  rw [← hW3] at hW1 ⊢
  have hz3 : W3.heap.size = w.heap.size + 1 + 1 + 1 + 1 := by rw [hW3]; simp
  have hz1 : W1.heap.size = w.heap.size + 1 + 1 + 1 + 1 + 1 := by rw [hW1, World.size_alloc, hz3]
  have hout : Boxed W1 (w.heap.size + 1 + 1) 55 (.slice (some ⟨w.heap.size + 1, 0, none⟩) 0 67) := by
    rw [hW1, hW3]
    have := ((Boxed.new ((w.alloc (.cells cx 25)).alloc (.cells z67 3)) 55 (.slice (some ⟨w.heap.size + 1, 0, none⟩) 0 67)).alloc (.cells #[.int .i64 0] 3)).alloc (.cells cx 25)
    rwa [World.size_alloc, World.size_alloc] at this
  have hsum : Boxed W1 (w.heap.size + 1 + 1 + 1) 3 (.int .i64 0) := by
    rw [hW1, hW3]
    have := (Boxed.new (((w.alloc (.cells cx 25)).alloc (.cells z67 3)).alloc (.cells #[.slice (some ⟨w.heap.size + 1, 0, none⟩) 0 67] 55)) 3 (.int .i64 0)).alloc (.cells cx 25)
    rwa [World.size_alloc, World.size_alloc, World.size_alloc] at this
  have hrow : W1.heap[w.heap.size + 1 + 1 + 1 + 1]? = some (.cells cx 25 (0, 0)) := by rw [hW1, ← hz3]; exact heap_alloc_last _ _
  have hown : W1.ownsRow w.heap.size 3 1 (.slice (some ⟨w.heap.size + 1, 0, none⟩) 0 67) 0 [] := by
    rw [hW1, hW3]
    have := World.ownsRow_made (base := w.heap.size) (e := 3) (size := 1) (w.alloc (.cells cx 25)) z67 67 (by simp) (by simp [maxLen]) (by rw [← HZ67.out]; simp)
    rw [World.size_alloc] at this
    exact ((this.alloc _).alloc _).alloc _
  have hlow : Below w.heap.size w W1 := by
    rw [hW1, hW3]
    exact (((((Below.refl _ w).alloc (Nat.le_refl _) _).alloc (by simp) _).alloc (by simp; omega) _).alloc (by simp; omega) _).alloc (by simp; omega) _
  have HOUT := Lib.hid hout
  have HSUM := Lib.hid hsum
  have HROW := Lib.hid hrow
  have HOWN := Lib.hid hown
  have HLOW := Lib.hid hlow
  have HZ := Lib.hid hz1
  rw [hz3]
  clear hout hsum hrow hown hlow hz1 hW1 hW3 hz3 HGL HSZ hm HZ67
  gi_wp2_with fail
  refine wpIn_rangeFunc_ownG (n := 5) (F := Fence.wide) rfl (by omega) (gf := 84) (lb := #[.pointer (some ⟨w.heap.size + 1 + 1 + 1 + 1, 0, none⟩)]) rfl trivial (enters_of Tryd.func84 (by kernel_rfl) rfl)
    (halves_stops 4 (by omega) (w.heap.size + 1 + 1 + 1 + 1) h W1 (by have := HZ.out; omega) HL.out HBY.out (by rw [HUX.out]; exact HROW.out)) (fun _ _ => trivial) (fun _ _ _ _ _ _ _ _ => trivial) (Below.refl _ _) (fun _ => rfl)
    (DigSt w.heap.size (w.heap.size + 1 + 1) (w.heap.size + 1 + 1 + 1) w)
    (fun _ _ _ => False) (digSt_own _ _ _ _ _ (Nat.le_refl _) (by have := HZ.out; omega)) (fun _ _ _ _ _ hs _ _ => hs) ⟨⟨_, HOUT.out, HOWN.out, by simp [Value.ownBlock]⟩, HSUM.out, HLOW.out⟩
    (fun x => { tmps := #[.agg cx, .pointer (some ⟨w.heap.size, 0, none⟩), .slice none 0 0, .pointer (some ⟨w.heap.size + 1 + 1, 0, none⟩), .pointer (some ⟨w.heap.size + 1 + 1 + 1, 0, none⟩), .int .i64 x, .slice (some ⟨w.heap.size + 1, 0, none⟩) 0 67, .agg cx, .func (.func 84) #[] #[.pointer (some ⟨w.heap.size + 1 + 1 + 1 + 1, 0, none⟩)], .int .i64 x, undef, undef, undef, undef, undef, undef, undef, undef, undef, undef, undef, undef, undef, undef, undef, undef, undef, undef], defers := [] }) ?assign ?body ?done ?stop
  case assign =>
    intro l x W K hK
    unfold encD
    gi_wp2
    exact hK
  case body =>
    rintro l pre x W ⟨⟨v, hv, hown, hne⟩, hsm, hlw⟩ hlt
    have hc := hv.cell
    have hcs := hsm.cell
    have hfs := hsm.frozen
    have hle := hlw.size
    obtain ⟨A2, c2, w2, hrun, ho2, hc2, hb2⟩ := push_run (P := Tryd.prog) W 55 55 w.heap.size 3 (.int .i64 0) 8 Tryd.underlying55 (by kernel_rfl) rfl v pre.length _ hown [.int .i64 x] 1 rfl (by simp [Value.oneCell']) (by omega) (by omega) hle
    obtain ⟨A1, c1, rfl⟩ := own_shape3 hown
    have hnb : (Value.slice A1 pre.length c1).ownBlock ≠ some (w.heap.size + 1 + 1) := fun h => hv.not_row (by decide) hown h.symm
    have hv1 : Boxed w2 (w.heap.size + 1 + 1) 55 (.slice A1 pre.length c1) := hc2.heap hv hnb
    have hs1 : Boxed w2 (w.heap.size + 1 + 1 + 1) 3 (.int .i64 (sgs pre)) := hc2.heap hsm hne
    have d0 := hv1.cell
    have d1 := hv1.frozen
    have d2 := hs1.cell
    have d3 := hs1.frozen
    have hz1 := HZ.out
    have hWz : w.heap.size + 1 + 1 + 1 < W.heap.size := hsm.lt
    obtain ⟨sg, hsg⟩ : ∃ z, sgs pre = z := ⟨_, rfl⟩
    rw [hsg] at hsm hcs hs1 d2
    have HSG := Lib.hid hsg
    have HR := Lib.hid hrun
    have HO2 := Lib.hid ho2
    have HC2 := Lib.hid hc2
    have HB2 := Lib.hid hb2
    have HV1 := Lib.hid hv1
    have HS1 := Lib.hid hs1
    have HLW := Lib.hid hlw
    have HNE := Lib.hid hne
    have HOWN := Lib.hid hown
    clear hrun ho2 hc2 hb2 hv1 hs1 hlw hne hnb hown hv hsm hz1 hsg
    gi_wp2_with (gi_at_builtin; refine wpListIn_gives (wideF.round l) rfl (fun c hc => by cases hc) (Φ := fun v W' => v = .slice A2 (pre.length + 1) c2 ∧ W' = w2) (gv_app rfl rfl rfl rfl HR.out ⟨rfl, rfl⟩) ?_; rintro v W' ⟨rfl, rfl⟩)
    have ho3 : (W'.setCell ⟨w.heap.size + 1 + 1, 0, none⟩ (.slice A2 (pre.length + 1) c2)).ownsRow w.heap.size 3 1 (.slice A2 (pre.length + 1) c2) (pre.length + 1) (i64s pre ++ [.int .i64 x]) :=
      own_chg HO2.out ((Chg.refl (· = w.heap.size + 1 + 1) W').setCell ⟨w.heap.size + 1 + 1, 0, none⟩ (.inl rfl) _) (fun k hk he => by
        subst he
        rcases HB2.out with h | ⟨g, h, hg⟩
        · exact (HV1.out.not_row (by decide) HO2.out) hk.symm
        · exact (HV1.out.not_row (by decide) HO2.out) hk.symm)
    have hne2 : (Value.slice A2 (pre.length + 1) c2).ownBlock ≠ some (w.heap.size + 1 + 1 + 1) := by
      rcases HB2.out with h | ⟨g, h, hg⟩
      · rw [h]; exact HNE.out
      · rw [h]; intro he; injection he with he; omega
    refine ⟨(((keeps_of_own HOWN.out HC2.out).trans (KeepsOthers.setCell _ _ _)).trans (KeepsOthers.setCell _ _ _)).from _, trivial, ⟨_, boxed_other (HV1.out.set _) (by simp), ?_, hne2⟩, ?_, ?_⟩
    · have h4 := own_chg ho3 ((Chg.refl (· = w.heap.size + 1 + 1 + 1) (W'.setCell ⟨w.heap.size + 1 + 1, 0, none⟩ (.slice A2 (pre.length + 1) c2))).setCell ⟨w.heap.size + 1 + 1 + 1, 0, none⟩ (.inl rfl) (.int .i64 (wrap64 (sg + wrap64 (15 - x))))) (fun k hk he => hne2 (by rw [hk, he]))
      simpa [i64s] using h4
    · rw [sgs_snoc, HSG.out]
      exact (boxed_other HS1.out (by simp)).set _
    · exact ((HLW.out.trans (below_of_own HOWN.out HC2.out (Nat.le_refl _) hle)).setCell (p := ⟨w.heap.size + 1 + 1, 0, none⟩) (by show w.heap.size ≤ w.heap.size + 1 + 1; omega) _).setCell (p := ⟨w.heap.size + 1 + 1 + 1, 0, none⟩) (by show w.heap.size ≤ w.heap.size + 1 + 1 + 1; omega) _
  case done =>
    rintro D ys W hD rfl ⟨⟨v, hv, hown, hne⟩, hsm, hB⟩ hK
    have hc := hv.cell
    have hcs := hsm.cell
    rw [sgs_dgs h HBY.out 64 (by omega)] at hcs
    rw [dgs_len] at hown
    have hlb := lack_bd h HBY.out 64
    obtain ⟨A1, c1, rfl⟩ := own_shape3 hown
    obtain ⟨S, hS⟩ : ∃ S, lackI h 64 = S := ⟨_, rfl⟩
    rw [hS] at hcs hlb
    obtain ⟨A2, c2, w2, hrun, ho2, hc2, hb2⟩ := push_run (P := Tryd.prog) W 55 55 w.heap.size 3 (.int .i64 0) 8 Tryd.underlying55 (by kernel_rfl) rfl _ _ _ hown [.int .i64 (S / 256), .int .i64 (S / 16 % 16), .int .i64 (S % 16)] 3 rfl (by simp [Value.oneCell']) (by omega) (by omega) hB.size
    have hS0 : 0 ≤ S := hlb.1
    have hS1 : S ≤ 960 := by omega
    have hK2 : w2.heap[D]? = some (.deferred (some [])) := (keeps_of_own hown hc2).2 D _ hK rfl
    have HR := Lib.hid hrun
    have HO2 := Lib.hid ho2
    have HB2 : Hid (Below w.heap.size w w2) := Lib.hid (hB.trans (below_of_own hown hc2 (Nat.le_refl _) hB.size))
    have HS := Lib.hid hS
    have HK2 := Lib.hid hK2
    clear hrun ho2 hc2 hb2 hlb hS hown hsm hv hne hB hK hK2
    gi_wp2_with (gi_at_builtin; refine wpListIn_gives wideF rfl (fun c hc => by cases hc) (Φ := fun v W' => v = .slice A2 (64 + 3) c2 ∧ W' = w2) (gv_app rfl rfl rfl rfl HR.out ⟨rfl, rfl⟩) ?_; rintro v W' ⟨rfl, rfl⟩)
    refine ⟨by simp, .inl ⟨_, _, rfl, run_takeDeferred HK2.out, ?_⟩⟩
    refine ⟨_, results_tmp rfl _ _ _, _, rfl, ownsRow_putObj ?_ _ HK2.out rfl, HB2.out.trans (belowK_b (w := w) (Nat.le_refl _) _ D _ _ (by have := HZ.out; omega) HK2.out rfl rfl)⟩
    have := HO2.out
    simpa [digitsI, i64s, HS.out] using this
  case stop =>
    rintro D c pre W _ _ h _
    exact h.elim
end Go.Proofs.YtaahffminoekfaaDoor
