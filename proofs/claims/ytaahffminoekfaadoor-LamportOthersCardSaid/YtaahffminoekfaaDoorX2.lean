/-
  The list of a hash's bits, walked.
-/
import Derived.Test.YtaahffminoekfaaDoorX1
import Derived.Test.YtaahffminoekfaaDoorGX
namespace Go.Proofs.YtaahffminoekfaaDoor
open Go.RowKit Go.Shelf
attribute [local go_sem] Oper.semAt_some
set_option maxRecDepth 100000 in
theorem info3b : (Tryd.prog.info? 3).map (fun i => (i.zero, i.size, i.bytes)) = some (some (.int .i64 0), 1, 8) := by kernel_rfl
def i64s (l : List Int) : List Value := l.map (.int .i64)
def bitsI (h : List Int) (n : Nat) : List Int := (List.range n).map (bitI h)
theorem bitsI_of (h : List Int) (n : Nat) : (bitsOf h n).map (·.2) = bitsI h n := by simp [bitsOf, bitsI, Function.comp_def]
theorem keepC_cells {w w' : World} {Bn : Nat} {S : Nat → Prop} (h : Chg S w w') (hB : Bn < w.heap.size) (hS : ¬ S Bn) : KeepC Bn w w' := fun _ => World.cell?_of_block (h.block Bn hB hS)
/-- What holds between two rounds. -/
structure BitsSt (n₀ B Bn : Nat) (cx : Array Value) (w : World) (pre : List KB) (W : World) : Prop where
  arr : W.heap[Bn]? = some (.cells cx 25 (0, 0))
  box : ∃ v, Boxed W B 55 v ∧ W.ownsRow n₀ 3 1 v pre.length (i64s (pre.map (·.2)))
  low : Below n₀ w W
theorem not_row_arr {W : World} {Bn : Nat} {cx : Array Value} {t e : TypeId} (h : W.heap[Bn]? = some (.cells cx t (0, 0))) (hte : t ≠ e) {base size k : Nat} {v : Value} {xs : List Value} (hr : W.ownsRow base e size v k xs) : v.ownBlock ≠ some Bn := by
  intro he
  rcases hr.2 with ⟨rfl, _⟩ | ⟨g, cap, cur, rfl, _, hgb, _⟩
  · simp [Value.ownBlock] at he
  · obtain rfl : g = Bn := by simpa [Value.ownBlock] using he
    rw [h] at hgb
    injection hgb with hgb
    injection hgb with _ h2
    exact hte h2
theorem bitsSt_own (n₀ B Bn : Nat) (cx : Array Value) (w : World) (C : Nat) (hn : n₀ ≤ w.heap.size) (hC : n₀ ≤ C) : OwnFrom C (BitsSt n₀ B Bn cx w) := by
  intro s W W' row hs hg hr
  have hk : row ≠ some Bn := by
    rintro rfl
    obtain ⟨_, o, ho, hc⟩ := hr Bn rfl
    rw [hs.arr] at ho
    cases ho
    cases hc
  obtain ⟨v, hv, hown⟩ := hs.box
  obtain ⟨⟨v', hv', hown', _⟩, hlow⟩ := OwnFrom.and (Own.from (holdsRow_own n₀ B 55 3 1 (fun pre : List KB => pre.length) (fun pre => i64s (pre.map (·.2))) (fun _ _ => True)) C) (ownFrom_below hn hC) s W W' row ⟨⟨v, hv, hown, trivial⟩, hs.low⟩ hg hr
  exact ⟨(hg.block Bn (Array.getElem?_eq_some_iff.1 hs.arr).1 (fun h => hk h.symm)).trans hs.arr, ⟨v', hv', hown'⟩, hlow⟩
set_option maxRecDepth 100000 in
set_option maxHeartbeats 2000000 in
theorem bits_any (h : List Int) (cx : Array Value) (hl : h.length = 32) (hb : ∀ j, 0 ≤ h.getD j 0 ∧ h.getD j 0 ≤ 255)
    (hx : ∀ j, j < 32 → cx[j]? = some (.int .u8 (h.getD j 0))) (hsz : (Tryd.prog.info? 25).map (·.size) = some cx.size) (w : World) :
    Calls Tryd.prog 74 #[.agg cx] w fun e W' => ∃ v, e = .returned v ∧ W'.ownsRow w.heap.size 3 1 v 256 (i64s (bitsI h 256)) ∧ Below w.heap.size w W' := by
  refine (callsIn_wide (n := 5)).1 ?_
  have HL := Lib.hid hl
  have HBY := Lib.hid hb
  have HX := Lib.hid hx
  have HSZ := Lib.hid hsz
  clear hl hb hx hsz
  obtain ⟨i0, hi, hz0, hz1, hz2⟩ := info_parts info3b
  refine callsIn_of_wp_marks Tryd.func74 rfl trivial ?_ rfl
  simp only [Tryd.ntmps74, List.size_toArray, List.length_cons, List.length_nil, Nat.reduceAdd, Nat.reduceSub, Array.replicate_succ, Array.replicate_zero, List.push_toArray, List.append_toArray, List.nil_append, List.cons_append]
  have hgl : ((w.alloc (.cells cx 25)).alloc (.cells #[.slice none 0 0] 55)).heap[w.heap.size]? = some (.cells cx 25 (0, 0)) := (Below.heap_alloc _ _ _ (by simp)).trans (heap_alloc_last _ _)
  have HGL := Lib.hid hgl
  clear hgl
  gi_wp2_with (refine wpListIn_gives wideF rfl (fun c hc => by cases hc) (Φ := fun v W' => v = .agg cx ∧ W' = _) (gv_load_row rfl rfl HGL.out Tryd.underlying25 rfl HSZ.out ⟨rfl, rfl⟩) ?_; rintro v W' ⟨rfl, rfl⟩)
  refine ⟨trivial, ?_⟩
  refine (each_in Fence.wide _ trivial rfl cx _).mono ?_
  rintro e W1 ⟨rfl, hW1⟩
  have hz1' : W1.heap.size = w.heap.size + 1 + 1 + 1 := by rw [hW1]; simp
  have hbx : Boxed W1 (w.heap.size + 1) 55 (.slice none 0 0) := by
    rw [hW1]; have := (Boxed.new (w.alloc (.cells cx 25)) 55 (.slice none 0 0)).alloc (.cells cx 25); rwa [World.size_alloc] at this
  have hrow : W1.heap[w.heap.size + 1 + 1]? = some (.cells cx 25 (0, 0)) := by
    rw [hW1]; have := heap_alloc_last ((w.alloc (.cells cx 25)).alloc (.cells #[.slice none 0 0] 55)) (.cells cx 25); rwa [World.size_alloc, World.size_alloc] at this
  have hlow : Below w.heap.size w W1 := by rw [hW1]; exact ((((Below.refl _ w).alloc (Nat.le_refl _) _).alloc (by simp) _).alloc (by simp; omega) _)
  have hcell : ∀ j, j < 32 → W1.cell? ⟨w.heap.size + 1 + 1, j, none⟩ = some (.int .u8 (h.getD j 0)) := fun j hj => (cell_of_row W1 _ j _ _ _ hrow).trans (HX.out j hj)
  have HBX := Lib.hid hbx
  have HLOW := Lib.hid hlow
  have HCELL := Lib.hid hcell
  have HROW := Lib.hid hrow
  have hsz : ((w.alloc (.cells cx 25)).alloc (.cells #[.slice none 0 0] 55)).heap.size = w.heap.size + 1 + 1 := by simp
  have HZ := Lib.hid hz1'
  rw [hsz]
  clear hbx hlow hcell hrow hW1 hz1' hsz HGL HSZ
  gi_wp2_with fail
  refine wpIn_rangeFunc_ownG (n := 5) (F := Fence.wide) rfl (by omega) (gf := 86) (lb := #[.pointer (some ⟨w.heap.size + 1 + 1, 0, none⟩)]) rfl trivial (enters_of Tryd.func86 (by kernel_rfl) rfl)
    (each_stops Fence.wide 4 trivial rfl (by omega) (w.heap.size + 1 + 1) h W1 (by have := HZ.out; omega) HL.out HBY.out HCELL.out) KeepC.trans (fun W l o o' hl ho _ _ => KeepC.put (by have := HZ.out; omega) ho) (Below.refl _ _) (fun _ => rfl)
    (BitsSt w.heap.size (w.heap.size + 1) (w.heap.size + 1 + 1) cx w)
    (fun _ _ _ => False) (bitsSt_own _ _ _ _ _ _ (Nat.le_refl _) (by have := HZ.out; omega)) (fun _ _ _ _ _ hs _ _ => hs) ⟨HROW.out, ⟨_, HBX.out, World.ownsRow_nil _ _ _ _⟩, HLOW.out⟩
    (fun x => { tmps := #[.agg cx, .pointer (some ⟨w.heap.size, 0, none⟩), .slice none 0 0, .pointer (some ⟨w.heap.size + 1, 0, none⟩), undef, .int .i64 x.2, .agg cx, .func (.func 86) #[] #[.pointer (some ⟨w.heap.size + 1 + 1, 0, none⟩)], .int .i64 (x.1 : Int), .int .i64 x.2, undef, undef, undef, undef, undef], defers := [] }) ?assign ?body ?done ?stop
  case assign =>
    intro l x W K hK
    unfold encB
    gi_wp2
    exact hK
  case body =>
    rintro l pre x W ⟨harr, ⟨v, hv, hown⟩, hlw⟩ hlt
    have hc := hv.cell
    have hne := not_row_arr harr (by decide) hown
    have hle := hlw.size
    have HV := Lib.hid hv
    have HO := Lib.hid hown
    have HA := Lib.hid harr
    have HLW := Lib.hid hlw
    have HNE := Lib.hid hne
    clear hv hown harr hlw hne
    gi_wp2_with (gi_at_builtin; refine wpListIn_append_own _ rfl _ _ 55 rfl w.heap.size 3 i0 (.int .i64 0) 1 8 Tryd.underlying55 hi hz0 hz1 hz2 rfl (by decide) _ _ _ rfl (HO.out.alloc _) ⟨W.heap.size, 0, none⟩ 1 1 [.int .i64 x.2] rfl rfl (cell_one_new _ _ _) (by simp [Value.oneCell']) (by simp only [maxLen]; omega) (by omega) (by simp; omega) ?_; intro v' w1 hown' hgrow _; obtain ⟨g', cap', rfl⟩ := ownsRow_succ hown'; obtain ⟨hv1, hv2, hr2, hk2, hb2⟩ := HV.out.appended (by decide) HO.out HLW.out.size (by omega) hown' hgrow; have hc1 := hv1.cell; have hf1 := hv1.frozen)
    have hblk : (w1.setCell ⟨w.heap.size + 1, 0, none⟩ (.slice (some ⟨g', 0, none⟩) (pre.length + 1) cap')).heap[w.heap.size + 1 + 1]? = some (.cells cx 25 (0, 0)) := by
      rw [Below.heap_setCell _ _ _ _ (by simp), hgrow.block _ (by have := (Array.getElem?_eq_some_iff.1 HA.out).1; simp; omega) (fun h => HNE.out h.symm), Below.heap_alloc _ _ _ (Array.getElem?_eq_some_iff.1 HA.out).1]
      exact HA.out
    refine ⟨hk2.from _, fun j => ?_, ⟨hblk, ⟨_, hv2, ?_⟩, HLW.out.trans hb2⟩⟩
    · exact World.cell?_of_block (hblk.trans HA.out.symm)
    · have := hr2
      simpa [i64s] using this
  case done =>
    rintro D ys W hD rfl ⟨harr, ⟨v, hv, hown⟩, hB⟩ hK
    have hc := hv.cell
    rw [bitsOf_len, bitsI_of] at hown
    have HO := Lib.hid hown
    have HB := Lib.hid hB
    clear harr hv hown hB
    gi_wp2
    refine ⟨by simp, .inl ⟨_, _, rfl, run_takeDeferred hK, ?_⟩⟩
    exact ⟨_, results_tmp rfl _ _ _, v, rfl, ownsRow_putObj HO.out _ hK rfl, HB.out.trans (belowK_b (w := w) (Nat.le_refl _) W D _ _ (by have := HZ.out; omega) hK rfl rfl)⟩
  case stop =>
    rintro D c pre W _ _ h _
    exact h.elim
end Go.Proofs.YtaahffminoekfaaDoor
