/-
  Calls that came in: their readings; many calls, one behind the other.
-/
import Derived.Test.YtofmblkmfbioiaaN23
import Derived.Test.YtofmblkmfbioiaaD
import Derived.Deep.Strs
namespace Go.Proofs.Ytofmblkmfbioiaa
open Go.RowKit Go.ChangeShapes Go.WideShapes Go.ChangeAt Go.Deep
/-- A call: its kind, its place, a letter from, to, its bytes. -/
structure OpI where
  kind : Int
  at_ : Int
  frm : Int
  to_ : Int
  dat : List Int
instance : Inhabited OpI := ⟨⟨0, 0, 0, 0, []⟩⟩
def opC (o : OpI) (d : Value) : List Value := [.int .i64 o.kind, .int .i64 o.at_, .int .i64 o.frm, .int .i64 o.to_, d]
def rowO (os : List OpI) (ds : List Value) : List Value := (List.zipWith opC os ds).flatten
/-- Calls in memory. -/
structure OpsAt (w : World) (v : Value) (os : List OpI) (ds : List Value) : Prop where
  len : ds.length = os.length
  src : Src w v 5 os.length (rowO os ds)
  dat : ∀ j, j < os.length → SlB w (ds.getD j undef) (os.getD j default).dat
theorem rowO_at : ∀ (os : List OpI) (ds : List Value) (k : Nat), ds.length = os.length → k < os.length → ∀ i, i < 5 → (rowO os ds)[5 * k + i]? = (opC (os.getD k default) (ds.getD k undef))[i]?
  | [], _, _, _, h, _, _ => by simp at h
  | _ :: _, [], _, h, _, _, _ => by simp at h
  | o :: os, d :: ds, 0, _, _, i, hi => by
    have e : rowO (o :: os) (d :: ds) = opC o d ++ rowO os ds := by simp [rowO]
    have hl : (opC o d).length = 5 := rfl
    rw [e, List.getElem?_append_left (by omega), show 5 * 0 + i = i by omega]
    simp
  | o :: os, d :: ds, k + 1, hd, hk, i, hi => by
    have ih := rowO_at os ds k (by simpa using hd) (by simpa using hk) i hi
    have e : rowO (o :: os) (d :: ds) = opC o d ++ rowO os ds := by simp [rowO]
    have hl : (opC o d).length = 5 := rfl
    rw [e, List.getElem?_append_right (by omega), hl, show 5 * (k + 1) + i - 5 = 5 * k + i by omega]
    simpa using ih
theorem Src.form {w : World} {v : Value} {size n : Nat} {us : List Value} (h : Src w v size n us) (hp : 0 < us.length) : ∃ b off c, v = .slice (some ⟨b, off, none⟩) n c ∧ n ≤ c ∧ c ≤ 9223372036854775807 ∧ ∀ j u, us[j]? = some u → w.cell? ⟨b, off + j, none⟩ = some u := by
  rcases h with ⟨_, _, rfl⟩ | ⟨⟨b, off, sp⟩, c, rfl, _, h1, h2, hr⟩
  · simp at hp
  · have h0 := hr 0 _ (List.getElem?_eq_getElem hp)
    have : sp = none := by
      cases sp with
      | none => rfl
      | some q =>
        exfalso
        simp only [Addr.add, if_pos] at h0
        unfold World.cell? at h0
        cases hb : w.heap[b]? with
        | none => simp [hb] at h0
        | some o => cases o <;> simp [hb] at h0
    subst this
    exact ⟨b, off, c, rfl, h1, h2, fun j u hu => by rw [← addr_add]; exact hr j u hu⟩
theorem rowO_len : ∀ (os : List OpI) (ds : List Value), ds.length = os.length → (rowO os ds).length = 5 * os.length
  | [], _, _ => by simp [rowO]
  | _ :: _, [], h => by simp at h
  | o :: os, d :: ds, h => by
    have e : rowO (o :: os) (d :: ds) = opC o d ++ rowO os ds := by simp [rowO]
    rw [e, List.length_append, rowO_len os ds (by simpa using h), List.length_cons]
    simp [opC]
    omega
/-- The cells of one call. -/
theorem OpsAt.cells {w : World} {v : Value} {os : List OpI} {ds : List Value} (h : OpsAt w v os ds) (hp : 0 < os.length) : ∃ b off c, v = .slice (some ⟨b, off, none⟩) os.length c ∧ os.length ≤ c ∧ c ≤ 9223372036854775807 ∧ ∀ k, k < os.length →
    w.cell? ⟨b, off + k * 5, none⟩ = some (.int .i64 (os.getD k default).kind) ∧ w.cell? ⟨b, off + k * 5 + 1, none⟩ = some (.int .i64 (os.getD k default).at_) ∧ w.cell? ⟨b, off + k * 5 + 2, none⟩ = some (.int .i64 (os.getD k default).frm) ∧
    w.cell? ⟨b, off + k * 5 + 3, none⟩ = some (.int .i64 (os.getD k default).to_) ∧ w.cell? ⟨b, off + k * 5 + 4, none⟩ = some (ds.getD k undef) := by
  obtain ⟨b, off, c, rfl, h1, h2, hr⟩ := h.src.form (by rw [rowO_len _ _ h.len]; omega)
  refine ⟨b, off, c, rfl, h1, h2, fun k hk => ?_⟩
  have e := fun i hi => hr (5 * k + i) _ ((rowO_at os ds k h.len hk i hi).trans (List.getElem?_eq_getElem (show i < (opC (os.getD k default) (ds.getD k undef)).length from hi)))
  refine ⟨?_, ?_, ?_, ?_, ?_⟩
  · have := e 0 (by omega); rwa [show off + (5 * k + 0) = off + k * 5 by omega] at this
  · have := e 1 (by omega); rwa [show off + (5 * k + 1) = off + k * 5 + 1 by omega] at this
  · have := e 2 (by omega); rwa [show off + (5 * k + 2) = off + k * 5 + 2 by omega] at this
  · have := e 3 (by omega); rwa [show off + (5 * k + 3) = off + k * 5 + 3 by omega] at this
  · have := e 4 (by omega); rwa [show off + (5 * k + 4) = off + k * 5 + 4 by omega] at this
theorem OpsAt.shape {w : World} {v : Value} {os : List OpI} {ds : List Value} (h : OpsAt w v os ds) : ∃ A c, v = .slice A os.length c ∧ os.length ≤ c ∧ c ≤ 9223372036854775807 := by
  rcases h.src with ⟨rfl, h, _⟩ | ⟨a, c, rfl, _, h1, h2, _⟩
  · rw [h]; exact ⟨none, 0, rfl, Nat.le_refl _, by omega⟩
  · exact ⟨_, c, rfl, h1, h2⟩
theorem rowO_app (os1 os2 : List OpI) (ds1 ds2 : List Value) (h : ds1.length = os1.length) : rowO (os1 ++ os2) (ds1 ++ ds2) = rowO os1 ds1 ++ rowO os2 ds2 := by
  unfold rowO
  rw [List.zipWith_append h.symm, List.flatten_append]
/-- What is read stays where it lies below what is turned. -/
theorem SlB.below {w w' : World} {v : Value} {xs : List Int} (h : SlB w v xs) (hc : Chg (fun i => w.heap.size ≤ i) w w') : SlB w' v xs :=
  Src.chg h hc (fun b hb h0 => by have := SlB.blk_lt h h0 b hb; omega) (by decide)
/-! Readings -/
section
variable {H : Type} {enc : TypeId × Value → H} {W : World}
set_option maxRecDepth 100000
theorem cells36 : Try.prog.cellsOf 36 = 5 := by kernel_rfl
theorem cells29 : Try.prog.cellsOf 29 = 3 := by kernel_rfl
theorem cells3 : Try.prog.cellsOf 3 = 1 := by kernel_rfl
theorem cells22 : Try.prog.cellsOf 22 = 1 := by kernel_rfl
theorem trod_bytes {fuel : Nat} {cs : List Value} {x : DataW H × List MemPlace} (h : DataW.trod enc Try.prog W 0 (fun _ => true) true fuel 22 cs = some x) : ∃ v xs, cs = [v] ∧ SlB W v xs ∧ Bytes xs := by
  rcases open_ints Try.underlying22 Try.underlying5 cells5 h with ⟨hcs, hx⟩ | ⟨a, len, cap, zs, hcs, _, hl, hm, hz, hx, hcell, hwz⟩
  · exact ⟨_, [], hcs, .inl ⟨rfl, rfl, rfl⟩, fun j => by simp⟩
  · simp at hz
    have hlen : (zs.take len).length = len := by rw [List.length_take]; omega
    refine ⟨_, zs.take len, hcs, .inr ⟨a, cap, by rw [hlen], by rw [u8s_len]; omega, by rw [hlen]; exact hl, by simpa [maxLen] using hm, fun j u hu => ?_⟩, fun j => ?_⟩
    · have hj : j < (zs.take len).length := by have := (List.getElem?_eq_some_iff.1 hu).1; rwa [u8s_len] at this
      rw [u8s_at hj] at hu
      cases hu
      rw [getD_take _ _ _ (by omega)]
      exact hcell j (by omega)
    · by_cases hj : j < len
      · rw [getD_take _ _ _ hj, List.getD_eq_getElem?_getD, List.getElem?_eq_getElem (show j < zs.length by omega)]
        exact bounds_u8 (hwz _ (List.getElem_mem _))
      · rw [List.getD_eq_getElem?_getD, List.getElem?_eq_none (by omega)]; simp
def OpOk (o : OpI) : Prop := I64 o.kind ∧ I64 o.at_ ∧ I64 o.frm ∧ I64 o.to_ ∧ Bytes o.dat
theorem trod_op {fuel : Nat} {cs : List Value} {x : DataW H × List MemPlace} (h : DataW.trod enc Try.prog W 0 (fun _ => true) true fuel 36 cs = some x) : ∃ y : OpI × Value, cs = opC y.1 y.2 ∧ SlB W y.2 y.1.dat ∧ OpOk y.1 := by
  obtain ⟨y0, y1, y2, n, _, hl, h0, h1, h2⟩ := trod_struct3 Try.underlying36 h
  obtain ⟨z0, z1, z2, m, _, hl2, k0, k1, k2⟩ := trod_struct3 Try.underlying29 h2
  rw [cells36] at hl
  match cs, hl with
  | [c0, c1, c2, c3, c4], _ =>
    simp only [cells3, cells29, cells22] at h0 h1 k0 k1 k2
    obtain ⟨a, ea, wa⟩ := trod_i64 Try.underlying3 h0
    obtain ⟨b, eb, wb⟩ := trod_i64 Try.underlying3 h1
    obtain ⟨f, ef, wf⟩ := trod_i64 Try.underlying3 k0
    obtain ⟨t, et, wt⟩ := trod_i64 Try.underlying3 k1
    obtain ⟨v, xs, ev, hv, hb⟩ := trod_bytes k2
    simp at ea eb ef et ev
    subst ea eb ef et ev
    exact ⟨(⟨a, b, f, t, xs⟩, c4), rfl, hv, wa, wb, wf, wt, hb⟩
theorem open_ops {base : Nat} {v : Value} {d : DataW H} {p : List MemPlace} (hv : Value.okWide Try.prog W .any base 33 v) (h : DataW.Trod enc Try.prog W 0 (fun _ => true) true 33 v d p) : ∃ os ds, OpsAt W v os ds ∧ ∀ j, j < os.length → OpOk (os.getD j default) := by
  obtain ⟨a0, len, cap, rfl⟩ := okWide_slice Try.underlying33 hv
  obtain ⟨fuel, hf⟩ := h
  rcases open_slice Try.underlying33 hf with ⟨hcs, hx⟩ | ⟨a, len', cap', m, n, D, Pl, hcs, _, hl, hm, hmm, _, hx⟩
  · simp [Value.cells] at hcs
    obtain ⟨rfl, rfl, rfl⟩ := hcs
    exact ⟨[], [], ⟨rfl, .inl ⟨rfl, rfl, rfl⟩, fun j hj => by simp at hj⟩, fun j hj => by simp at hj⟩
  · simp [Value.cells] at hcs
    obtain ⟨rfl, rfl, rfl⟩ := hcs
    simp at hmm
    have each : ∀ i, i < len → ∃ y : OpI × Value, (∀ q, q < 5 → W.cell? (a.add (5 * i + q)) = (opC y.1 y.2)[q]?) ∧ SlB W y.2 y.1.dat ∧ OpOk y.1 := fun i hi => by
      obtain ⟨cs', h1, h2⟩ := hx i (by omega)
      obtain ⟨y, rfl, hy, hok⟩ := trod_op h2
      refine ⟨y, fun q hq => ?_, hy, hok⟩
      rw [cells36] at h1
      have := (World.cells?_some h1).2.2 q hq
      rw [add_add, show i * 5 + q = 5 * i + q by omega] at this
      exact this
    obtain ⟨Y, hY⟩ := choose_lt each
    let os := (List.range len).map fun i => (Y i).1
    let ds := (List.range len).map fun i => (Y i).2
    have hlo : os.length = len := by simp [os]
    have hld : ds.length = len := by simp [ds]
    have ho : ∀ j, j < len → os.getD j default = (Y j).1 := fun j hj => by simp [os, List.getD_eq_getElem?_getD, hj]
    have hd : ∀ j, j < len → ds.getD j undef = (Y j).2 := fun j hj => by simp [ds, List.getD_eq_getElem?_getD, hj]
    refine ⟨os, ds, ⟨by rw [hlo, hld], .inr ⟨a, cap, by rw [hlo], by rw [rowO_len _ _ (by rw [hlo, hld])]; omega, by rw [hlo]; exact hl, by simpa [maxLen] using hm, fun j u hu => ?_⟩, fun j hj => ?_⟩, fun j hj => ?_⟩
    · have hj : j < 5 * len := by have := (List.getElem?_eq_some_iff.1 hu).1; rwa [rowO_len _ _ (by rw [hlo, hld]), hlo] at this
      have hk : j / 5 < len := by omega
      have e := rowO_at os ds (j / 5) (by rw [hlo, hld]) (by rw [hlo]; exact hk) (j % 5) (Nat.mod_lt _ (by decide))
      rw [show 5 * (j / 5) + j % 5 = j by omega, hu, ho _ hk, hd _ hk] at e
      have := (hY (j / 5) hk).1 (j % 5) (Nat.mod_lt _ (by decide))
      rw [show 5 * (j / 5) + j % 5 = j by omega, ← e] at this
      exact this
    · rw [ho j (by omega), hd j (by omega)]; exact (hY j (by omega)).2.1
    · rw [ho j (by omega)]; exact (hY j (by omega)).2.2
end
end Go.Proofs.Ytofmblkmfbioiaa
