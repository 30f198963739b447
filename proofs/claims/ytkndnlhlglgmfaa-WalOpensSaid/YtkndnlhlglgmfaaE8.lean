/-
  Calls that came in: their readings.
-/
import Derived.Test.YtkndnlhlglgmfaaE7
import Derived.Test.YtkndnlhlglgmfaaD
import Derived.Deep.Strs
namespace Go.Proofs.Ytkndnlhlglgmfaa
open Go.RowKit Go.ChangeShapes Go.WideShapes Go.ChangeAt Go.Deep
/-- A call: its kind, its sector, a number, its bytes, what is lost. -/
structure OpI where
  kind : Int
  sec : Int
  num : Int
  dat : List Int
  lost : List Int
instance : Inhabited OpI := ⟨⟨0, 0, 0, [], []⟩⟩
def opC (o : OpI) (d : Value × Value) : List Value := [.int .i64 o.kind, .int .i64 o.sec, .int .i64 o.num, d.1, d.2]
def uu : Value × Value := (undef, undef)
def rowO (os : List OpI) (ds : List (Value × Value)) : List Value := (List.zipWith opC os ds).flatten
/-- Calls in memory. -/
structure OpsAt (w : World) (v : Value) (os : List OpI) (ds : List (Value × Value)) : Prop where
  len : ds.length = os.length
  src : Src w v 5 os.length (rowO os ds)
  dat : ∀ j, j < os.length → SlB w (ds.getD j uu).1 (os.getD j default).dat
  lost : ∀ j, j < os.length → SlI w (ds.getD j uu).2 (os.getD j default).lost
theorem rowO_at : ∀ (os : List OpI) (ds : List (Value × Value)) (k : Nat), ds.length = os.length → k < os.length → ∀ i, i < 5 → (rowO os ds)[5 * k + i]? = (opC (os.getD k default) (ds.getD k uu))[i]?
  | [], _, _, _, h, _, _ => by simp at h
  | _ :: _, [], _, h, _, _, _ => by simp at h
  | o :: os, d :: ds, 0, _, _, i, hi => by
    have e : rowO (o :: os) (d :: ds) = opC o d ++ rowO os ds := by simp [rowO]
    have hl : (opC o d).length = 5 := rfl
    rw [e, List.getElem?_append_left (by omega), show 5 * 0 + i = i by omega]
    simp
  | o :: os, d :: ds, k + 1, hd, hk, i, hi => by
    have ih := rowO_at os ds k (by simpa using hd) (by simpa using hk) i hi
    have e : rowO (o :: os) (d :: ds) = opC o d ++ rowO os ds := by simp [rowO]
    have hl : (opC o d).length = 5 := rfl
    rw [e, List.getElem?_append_right (by omega), hl, show 5 * (k + 1) + i - 5 = 5 * k + i by omega]
    simpa using ih
theorem rowO_len : ∀ (os : List OpI) (ds : List (Value × Value)), ds.length = os.length → (rowO os ds).length = 5 * os.length
  | [], _, _ => by simp [rowO]
  | _ :: _, [], h => by simp at h
  | o :: os, d :: ds, h => by
    have e : rowO (o :: os) (d :: ds) = opC o d ++ rowO os ds := by simp [rowO]
    rw [e, List.length_append, rowO_len os ds (by simpa using h), List.length_cons]
    simp [opC]
    omega
/-- The cells of one call. -/
theorem OpsAt.cells {w : World} {v : Value} {os : List OpI} {ds : List (Value × Value)} (h : OpsAt w v os ds) (hp : 0 < os.length) : ∃ b off c, v = .slice (some ⟨b, off, none⟩) os.length c ∧ os.length ≤ c ∧ c ≤ 9223372036854775807 ∧ ∀ k, k < os.length →
    w.cell? ⟨b, off + k * 5, none⟩ = some (.int .i64 (os.getD k default).kind) ∧ w.cell? ⟨b, off + k * 5 + 1, none⟩ = some (.int .i64 (os.getD k default).sec) ∧ w.cell? ⟨b, off + k * 5 + 2, none⟩ = some (.int .i64 (os.getD k default).num) ∧
    w.cell? ⟨b, off + k * 5 + 3, none⟩ = some (ds.getD k uu).1 ∧ w.cell? ⟨b, off + k * 5 + 4, none⟩ = some (ds.getD k uu).2 := by
  obtain ⟨b, off, c, rfl, h1, h2, hr⟩ := h.src.form (by rw [rowO_len _ _ h.len]; omega)
  refine ⟨b, off, c, rfl, h1, h2, fun k hk => ?_⟩
  have e := fun i hi => hr (5 * k + i) _ ((rowO_at os ds k h.len hk i hi).trans (List.getElem?_eq_getElem (show i < (opC (os.getD k default) (ds.getD k uu)).length from hi)))
  refine ⟨?_, ?_, ?_, ?_, ?_⟩
  · have := e 0 (by omega); rwa [show off + (5 * k + 0) = off + k * 5 by omega] at this
  · have := e 1 (by omega); rwa [show off + (5 * k + 1) = off + k * 5 + 1 by omega] at this
  · have := e 2 (by omega); rwa [show off + (5 * k + 2) = off + k * 5 + 2 by omega] at this
  · have := e 3 (by omega); rwa [show off + (5 * k + 3) = off + k * 5 + 3 by omega] at this
  · have := e 4 (by omega); rwa [show off + (5 * k + 4) = off + k * 5 + 4 by omega] at this
theorem OpsAt.shape {w : World} {v : Value} {os : List OpI} {ds : List (Value × Value)} (h : OpsAt w v os ds) : ∃ A c, v = .slice A os.length c ∧ os.length ≤ c ∧ c ≤ 9223372036854775807 := by
  rcases h.src with ⟨rfl, h, _⟩ | ⟨a, c, rfl, _, h1, h2, _⟩
  · rw [h]; exact ⟨none, 0, rfl, Nat.le_refl _, by omega⟩
  · exact ⟨_, c, rfl, h1, h2⟩
theorem src_lt {w : World} {v : Value} {size n : Nat} {us : List Value} (h : Src w v size n us) (h0 : 0 < n) (hs : 0 < size) (b : Nat) (hb : Value.blk v = some b) : b < w.heap.size := by
  have hlen := h.len
  have hpos : 0 < us.length := by rw [hlen]; exact Nat.mul_pos h0 hs
  obtain ⟨g, off, c, rfl, _, _, hc⟩ := h.form hpos
  injection hb with hb
  subst hb
  exact World.block_lt_of_cell? _ _ (hc 0 _ (List.getElem?_eq_getElem hpos))
/-- What is read stays where it lies below what is turned. -/
theorem src_below {w w' : World} {v : Value} {size n : Nat} {us : List Value} (h : Src w v size n us) (hs : 0 < size) (hc : Chg (fun i => w.heap.size ≤ i) w w') : Src w' v size n us :=
  Src.chg h hc (fun b hb h0 => by have := src_lt h h0 hs b hb; omega) hs
theorem OpsAt.below {w w' : World} {v : Value} {os : List OpI} {ds : List (Value × Value)} (h : OpsAt w v os ds) (hc : Chg (fun i => w.heap.size ≤ i) w w') : OpsAt w' v os ds :=
  ⟨h.len, src_below h.src (by decide) hc, fun j hj => src_below (h.dat j hj) (by decide) hc, fun j hj => src_below (h.lost j hj) (by decide) hc⟩
/-! Readings -/
section
variable {H : Type} {enc : TypeId × Value → H} {P : Program} {w : World} {base : Nat} {spare : Nat → Bool} {held : Bool}
theorem trod_struct5 {t : TypeId} {f0 f1 f2 f3 f4 : Field} {fuel : Nat} {cs : List Value} {x : DataW H × List MemPlace} (ht : P.underlying t = some (.struct #[f0, f1, f2, f3, f4])) (h : DataW.trod enc P w base spare held fuel t cs = some x) :
    ∃ y0 y1 y2 y3 y4 n, cs.length = P.cellsOf t ∧ DataW.trod enc P w base spare held n f0.type ((cs.drop f0.offset).take (P.cellsOf f0.type)) = some y0 ∧
      DataW.trod enc P w base spare held n f1.type ((cs.drop f1.offset).take (P.cellsOf f1.type)) = some y1 ∧ DataW.trod enc P w base spare held n f2.type ((cs.drop f2.offset).take (P.cellsOf f2.type)) = some y2 ∧
      DataW.trod enc P w base spare held n f3.type ((cs.drop f3.offset).take (P.cellsOf f3.type)) = some y3 ∧ DataW.trod enc P w base spare held n f4.type ((cs.drop f4.offset).take (P.cellsOf f4.type)) = some y4 := by
  obtain ⟨xs, n, _, rfl, hl, hlen, hf⟩ := DataW.trod_struct ht h
  match xs, hlen with
  | [y0, y1, y2, y3, y4], _ => exact ⟨y0, y1, y2, y3, y4, n, hl, by simpa using hf 0 f0 rfl, by simpa using hf 1 f1 rfl, by simpa using hf 2 f2 rfl, by simpa using hf 3 f3 rfl, by simpa using hf 4 f4 rfl⟩
end
section
variable {H : Type} {enc : TypeId × Value → H} {W : World}
set_option maxRecDepth 100000
theorem cells31 : Try.prog.cellsOf 31 = 5 := by kernel_rfl
theorem cells3 : Try.prog.cellsOf 3 = 1 := by kernel_rfl
theorem cells28 : Try.prog.cellsOf 28 = 1 := by kernel_rfl
theorem cells29 : Try.prog.cellsOf 29 = 1 := by kernel_rfl
theorem trod_bytes {fuel : Nat} {cs : List Value} {x : DataW H × List MemPlace} (h : DataW.trod enc Try.prog W 0 (fun _ => true) true fuel 28 cs = some x) : ∃ v xs, cs = [v] ∧ SlB W v xs ∧ Bytes xs := by
  rcases open_ints Try.underlying28 Try.underlying5 cells5 h with ⟨hcs, hx⟩ | ⟨a, len, cap, zs, hcs, _, hl, hm, hz, hx, hcell, hwz⟩
  · exact ⟨_, [], hcs, .inl ⟨rfl, rfl, rfl⟩, fun j => by simp⟩
  · simp at hz
    have hlen : (zs.take len).length = len := by rw [List.length_take]; omega
    refine ⟨_, zs.take len, hcs, .inr ⟨a, cap, by rw [hlen], by rw [u8s_len]; omega, by rw [hlen]; exact hl, by simpa [maxLen] using hm, fun j u hu => ?_⟩, fun j => ?_⟩
    · have hj : j < (zs.take len).length := by have := (List.getElem?_eq_some_iff.1 hu).1; rwa [u8s_len] at this
      rw [u8s_at hj] at hu
      cases hu
      rw [getD_take _ _ _ (by omega)]
      exact hcell j (by omega)
    · by_cases hj : j < len
      · rw [getD_take _ _ _ hj, List.getD_eq_getElem?_getD, List.getElem?_eq_getElem (show j < zs.length by omega)]
        exact bounds_u8 (hwz _ (List.getElem_mem _))
      · rw [List.getD_eq_getElem?_getD, List.getElem?_eq_none (by omega)]; simp
theorem i64s_len (l : List Int) : (i64s l).length = l.length := by simp [i64s]
theorem i64s_at {l : List Int} {j : Nat} (h : j < l.length) : (i64s l)[j]? = some (.int .i64 (l.getD j 0)) := by
  simp [i64s, List.getElem?_eq_getElem h, List.getD_eq_getElem?_getD]
theorem trod_nums {fuel : Nat} {cs : List Value} {x : DataW H × List MemPlace} (h : DataW.trod enc Try.prog W 0 (fun _ => true) true fuel 29 cs = some x) : ∃ v xs, cs = [v] ∧ SlI W v xs ∧ ∀ j, I64 (xs.getD j 0) := by
  rcases open_ints Try.underlying29 Try.underlying3 cells3 h with ⟨hcs, hx⟩ | ⟨a, len, cap, zs, hcs, _, hl, hm, hz, hx, hcell, hwz⟩
  · exact ⟨_, [], hcs, .inl ⟨rfl, rfl, rfl⟩, fun j => by simp [I64]⟩
  · simp at hz
    have hlen : (zs.take len).length = len := by rw [List.length_take]; omega
    refine ⟨_, zs.take len, hcs, .inr ⟨a, cap, by rw [hlen], by rw [i64s_len]; omega, by rw [hlen]; exact hl, by simpa [maxLen] using hm, fun j u hu => ?_⟩, fun j => ?_⟩
    · have hj : j < (zs.take len).length := by have := (List.getElem?_eq_some_iff.1 hu).1; rwa [i64s_len] at this
      rw [i64s_at hj] at hu
      cases hu
      rw [getD_take _ _ _ (by omega)]
      exact hcell j (by omega)
    · by_cases hj : j < len
      · rw [getD_take _ _ _ hj, List.getD_eq_getElem?_getD, List.getElem?_eq_getElem (show j < zs.length by omega)]
        exact bounds_i64 (hwz _ (List.getElem_mem _))
      · rw [List.getD_eq_getElem?_getD, List.getElem?_eq_none (by omega)]; simp [I64]
def OpOk (o : OpI) : Prop := I64 o.kind ∧ I64 o.sec ∧ I64 o.num ∧ Bytes o.dat ∧ ∀ j, I64 (o.lost.getD j 0)
theorem trod_op {fuel : Nat} {cs : List Value} {x : DataW H × List MemPlace} (h : DataW.trod enc Try.prog W 0 (fun _ => true) true fuel 31 cs = some x) : ∃ y : OpI × (Value × Value), cs = opC y.1 y.2 ∧ SlB W y.2.1 y.1.dat ∧ SlI W y.2.2 y.1.lost ∧ OpOk y.1 := by
  obtain ⟨y0, y1, y2, y3, y4, n, hl, h0, h1, h2, h3, h4⟩ := trod_struct5 Try.underlying31 h
  rw [cells31] at hl
  match cs, hl with
  | [c0, c1, c2, c3, c4], _ =>
    simp only [cells3, cells28, cells29] at h0 h1 h2 h3 h4
    obtain ⟨a, ea, wa⟩ := trod_i64 Try.underlying3 h0
    obtain ⟨b, eb, wb⟩ := trod_i64 Try.underlying3 h1
    obtain ⟨f, ef, wf⟩ := trod_i64 Try.underlying3 h2
    obtain ⟨v, xs, ev, hv, hb⟩ := trod_bytes h3
    obtain ⟨u, zs, eu, hu, hz⟩ := trod_nums h4
    simp at ea eb ef ev eu
    subst ea eb ef ev eu
    exact ⟨(⟨a, b, f, xs, zs⟩, (c3, c4)), rfl, hv, hu, wa, wb, wf, hb, hz⟩
theorem open_ops {base : Nat} {v : Value} {d : DataW H} {p : List MemPlace} (hv : Value.okWide Try.prog W .any base 22 v) (h : DataW.Trod enc Try.prog W 0 (fun _ => true) true 22 v d p) : ∃ os ds, OpsAt W v os ds ∧ ∀ j, j < os.length → OpOk (os.getD j default) := by
  obtain ⟨a0, len, cap, rfl⟩ := okWide_slice Try.underlying22 hv
  obtain ⟨fuel, hf⟩ := h
  rcases open_slice Try.underlying22 hf with ⟨hcs, hx⟩ | ⟨a, len', cap', m, n, D, Pl, hcs, _, hl, hm, hmm, _, hx⟩
  · simp [Value.cells] at hcs
    obtain ⟨rfl, rfl, rfl⟩ := hcs
    exact ⟨[], [], ⟨rfl, .inl ⟨rfl, rfl, rfl⟩, fun j hj => by simp at hj, fun j hj => by simp at hj⟩, fun j hj => by simp at hj⟩
  · simp [Value.cells] at hcs
    obtain ⟨rfl, rfl, rfl⟩ := hcs
    simp at hmm
    have each : ∀ i, i < len → ∃ y : OpI × (Value × Value), (∀ q, q < 5 → W.cell? (a.add (5 * i + q)) = (opC y.1 y.2)[q]?) ∧ SlB W y.2.1 y.1.dat ∧ SlI W y.2.2 y.1.lost ∧ OpOk y.1 := fun i hi => by
      obtain ⟨cs', h1, h2⟩ := hx i (by omega)
      obtain ⟨y, rfl, hy, hy2, hok⟩ := trod_op h2
      refine ⟨y, fun q hq => ?_, hy, hy2, hok⟩
      rw [cells31] at h1
      have := (World.cells?_some h1).2.2 q hq
      rw [add_add, show i * 5 + q = 5 * i + q by omega] at this
      exact this
    obtain ⟨Y, hY⟩ := choose_lt each
    let os := (List.range len).map fun i => (Y i).1
    let ds := (List.range len).map fun i => (Y i).2
    have hlo : os.length = len := by simp [os]
    have hld : ds.length = len := by simp [ds]
    have ho : ∀ j, j < len → os.getD j default = (Y j).1 := fun j hj => by simp [os, List.getD_eq_getElem?_getD, hj]
    have hd : ∀ j, j < len → ds.getD j uu = (Y j).2 := fun j hj => by simp [ds, List.getD_eq_getElem?_getD, hj]
    refine ⟨os, ds, ⟨by rw [hlo, hld], .inr ⟨a, cap, by rw [hlo], by rw [rowO_len _ _ (by rw [hlo, hld])]; omega, by rw [hlo]; exact hl, by simpa [maxLen] using hm, fun j u hu => ?_⟩, fun j hj => ?_, fun j hj => ?_⟩, fun j hj => ?_⟩
    · have hj : j < 5 * len := by have := (List.getElem?_eq_some_iff.1 hu).1; rwa [rowO_len _ _ (by rw [hlo, hld]), hlo] at this
      have hk : j / 5 < len := by omega
      have e := rowO_at os ds (j / 5) (by rw [hlo, hld]) (by rw [hlo]; exact hk) (j % 5) (Nat.mod_lt _ (by decide))
      rw [show 5 * (j / 5) + j % 5 = j by omega, hu, ho _ hk, hd _ hk] at e
      have := (hY (j / 5) hk).1 (j % 5) (Nat.mod_lt _ (by decide))
      rw [show 5 * (j / 5) + j % 5 = j by omega, ← e] at this
      exact this
    · rw [ho j (by omega), hd j (by omega)]; exact (hY j (by omega)).2.1
    · rw [ho j (by omega), hd j (by omega)]; exact (hY j (by omega)).2.2.1
    · rw [ho j (by omega)]; exact (hY j (by omega)).2.2.2
end
def smallB (os : List OpI) : Bool := os.all (fun o => decide (o.dat.length ≤ 200) && decide (o.lost.length ≤ 40))
set_option maxRecDepth 100000 in
set_option maxHeartbeats 4000000 in
theorem small_any (w : World) (v : Value) (os : List OpI) (ds : List (Value × Value)) (h : OpsAt w v os ds) (most : Int) :
    Calls Try.prog 12 #[v, .int .i64 most] w (fun e w' => e = .returned (.bool (smallB os && decide ((os.length : Int) ≤ most))) ∧ Below w.heap.size w w') := by
  obtain ⟨A, c, rfl, hc1, hc2⟩ := h.shape
  have HO := Lib.hid h
  clear h
  go_enter Try.func12, Try.ntmps12
  go_wp2_with fail
  go_loopw [9] (fun i wr => ∃ (k : Nat), k ≤ os.length ∧ i = .int .i64 k ∧ (∀ j, j < k → (os.getD j default).dat.length ≤ 200 ∧ (os.getD j default).lost.length ≤ 40) ∧ Chg (fun i => w.heap.size ≤ i) w wr) (fun i _ => os.length - (intOf i).toNat)
  case atStart => exact ⟨0, by omega, rfl, fun j hj => by omega, Chg.refl _ _⟩
  case round =>
    rename World => wr
    obtain ⟨k, hk, rfl, hall, hch⟩ := hrel
    by_cases hk2 : (k : Int) < os.length
    · have ho := HO.out.below hch
      have hsz := hch.size
      obtain ⟨b, off, cc, he, _, _, hcells⟩ := ho.cells (by omega)
      injection he with e1 e2 e3
      subst e1
      obtain ⟨r0, r1, r2, r3, r4⟩ := hcells k (by omega)
      have hdd := ho.dat k (by omega)
      have hll := ho.lost k (by omega)
      obtain ⟨⟨d1, d2⟩, hde⟩ : ∃ d, ds.getD k uu = d := ⟨_, rfl⟩
      obtain ⟨o, hoe⟩ : ∃ o, os.getD k default = o := ⟨_, rfl⟩
      rw [hde] at r3 r4 hdd hll
      rw [hoe] at r0 r1 r2 hdd hll
      dsimp only at r3 r4 hdd hll
      obtain ⟨A1, c1, rfl, x1, x2⟩ := hdd.shape
      obtain ⟨A2, c2, rfl, y1, y2⟩ := hll.shape
      have HALL := Lib.hid hall
      have HOE := Lib.hid hoe
      have HCH := Lib.hid (hch.then ((Chg.refl (fun i => w.heap.size ≤ i) wr).alloc (.cells #[.int .i64 o.kind, .int .i64 o.sec, .int .i64 o.num, .slice A1 o.dat.length c1, .slice A2 o.lost.length c2] 31)) (fun i hi => .inl hi))
      clear hall hch ho hcells hdd hll hde hoe
      by_cases hb1 : (200 : Int) < o.dat.length
      · have HF := Lib.hid (show smallB os = false by
          unfold smallB
          rw [List.all_eq_false]
          refine ⟨o, ?_, by simp; omega⟩
          rw [← HOE.out, List.getD_eq_getElem?_getD, List.getElem?_eq_getElem (show k < os.length by omega)]
          exact List.getElem_mem _)
        go_wp2_with fail
        go_ret
        exact ⟨by rw [HF.out]; rfl, HCH.out.below (Nat.le_refl _) (fun _ h => h)⟩
      · by_cases hb2 : (40 : Int) < o.lost.length
        · have HF := Lib.hid (show smallB os = false by
            unfold smallB
            rw [List.all_eq_false]
            refine ⟨o, ?_, by simp; omega⟩
            rw [← HOE.out, List.getD_eq_getElem?_getD, List.getElem?_eq_getElem (show k < os.length by omega)]
            exact List.getElem_mem _)
          go_wp2_with fail
          go_ret
          exact ⟨by rw [HF.out]; rfl, HCH.out.below (Nat.le_refl _) (fun _ h => h)⟩
        · go_wp2_with fail
          refine ⟨⟨k + 1, by omega, by go_num, fun j hj => ?_, HCH.out⟩, by simp [intOf]; omega⟩
          by_cases hjk : j = k
          · subst hjk; rw [HOE.out]; omega
          · exact HALL.out j (by omega)
    · obtain rfl : k = os.length := by omega
      have HF := Lib.hid (show smallB os = true by
        unfold smallB
        rw [List.all_eq_true]
        intro o ho
        obtain ⟨j, hj, rfl⟩ := List.mem_iff_getElem.1 ho
        have := hall j hj
        rw [List.getD_eq_getElem?_getD, List.getElem?_eq_getElem hj] at this
        simpa using this)
      have HCH := Lib.hid hch
      clear hall hch
      go_wp2_with fail
      go_ret
      exact ⟨by rw [HF.out]; rfl, HCH.out.below (Nat.le_refl _) (fun _ h => h)⟩
end Go.Proofs.Ytkndnlhlglgmfaa
