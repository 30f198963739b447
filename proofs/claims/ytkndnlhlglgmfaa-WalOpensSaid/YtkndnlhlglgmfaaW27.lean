/-
  Calls of a wal that came in: their readings. What the law's small functions tell: small, homes, changed, same, walked. What the law's small functions tell: changed, same, walked. The error of changes, as the document says: wrong, walked. A fixed answer: the wal's awake, walked.
-/
import Derived.Test.YtkndnlhlglgmfaaW22
import Derived.Test.YtkndnlhlglgmfaaR
import Derived.Test.YtkndnlhlglgmfaaE33
namespace Go.Proofs.Ytkndnlhlglgmfaa
open Go.RowKit Go.ChangeShapes Go.WideShapes Go.ChangeAt Go.Deep
/-- A call of a wal: its kind, a number, its changes, what is lost. -/
structure WOp where
  kind : Int
  num : Int
  chs : List ChI
  lost : List Int
instance : Inhabited WOp := ⟨⟨0, 0, [], []⟩⟩
def wopC (o : WOp) (d : Value × Value) : List Value := [.int .i64 o.kind, .int .i64 o.num, d.1, d.2]
def rowW (os : List WOp) (ds : List (Value × Value)) : List Value := (List.zipWith wopC os ds).flatten
/-- Changes in memory, with their bytes. -/
structure ChsAt (w : World) (v : Value) (cs : List ChI) (ds : List Value) : Prop where
  ch : ChAt w v cs ds
  dat : ∀ j, j < cs.length → SlB w (ds.getD j undef) (cs.getD j default).dat
structure WOpsAt (w : World) (v : Value) (os : List WOp) (ds : List (Value × Value)) (es : List (List Value)) : Prop where
  len : ds.length = os.length
  src : Src w v 4 os.length (rowW os ds)
  chs : ∀ j, j < os.length → ChsAt w (ds.getD j uu).1 (os.getD j default).chs (es.getD j [])
  lost : ∀ j, j < os.length → SlI w (ds.getD j uu).2 (os.getD j default).lost
theorem rowW_at : ∀ (os : List WOp) (ds : List (Value × Value)) (k : Nat), ds.length = os.length → k < os.length → ∀ i, i < 4 → (rowW os ds)[4 * k + i]? = (wopC (os.getD k default) (ds.getD k uu))[i]?
  | [], _, _, _, h, _, _ => by simp at h
  | _ :: _, [], _, h, _, _, _ => by simp at h
  | o :: os, d :: ds, 0, _, _, i, hi => by
    have e : rowW (o :: os) (d :: ds) = wopC o d ++ rowW os ds := by simp [rowW]
    have hl : (wopC o d).length = 4 := rfl
    rw [e, List.getElem?_append_left (by omega), show 4 * 0 + i = i by omega]
    simp
  | o :: os, d :: ds, k + 1, hd, hk, i, hi => by
    have ih := rowW_at os ds k (by simpa using hd) (by simpa using hk) i hi
    have e : rowW (o :: os) (d :: ds) = wopC o d ++ rowW os ds := by simp [rowW]
    have hl : (wopC o d).length = 4 := rfl
    rw [e, List.getElem?_append_right (by omega), hl, show 4 * (k + 1) + i - 4 = 4 * k + i by omega]
    simpa using ih
theorem rowW_len : ∀ (os : List WOp) (ds : List (Value × Value)), ds.length = os.length → (rowW os ds).length = 4 * os.length
  | [], _, _ => by simp [rowW]
  | _ :: _, [], h => by simp at h
  | o :: os, d :: ds, h => by
    have e : rowW (o :: os) (d :: ds) = wopC o d ++ rowW os ds := by simp [rowW]
    rw [e, List.length_append, rowW_len os ds (by simpa using h), List.length_cons]
    simp [wopC]
    omega
theorem WOpsAt.cells {w : World} {v : Value} {os : List WOp} {ds : List (Value × Value)} {es : List (List Value)} (h : WOpsAt w v os ds es) (hp : 0 < os.length) : ∃ b off c, v = .slice (some ⟨b, off, none⟩) os.length c ∧ os.length ≤ c ∧ c ≤ 9223372036854775807 ∧ ∀ k, k < os.length →
    w.cell? ⟨b, off + k * 4, none⟩ = some (.int .i64 (os.getD k default).kind) ∧ w.cell? ⟨b, off + k * 4 + 1, none⟩ = some (.int .i64 (os.getD k default).num) ∧
    w.cell? ⟨b, off + k * 4 + 2, none⟩ = some (ds.getD k uu).1 ∧ w.cell? ⟨b, off + k * 4 + 3, none⟩ = some (ds.getD k uu).2 := by
  obtain ⟨b, off, c, rfl, h1, h2, hr⟩ := h.src.form (by rw [rowW_len _ _ h.len]; omega)
  refine ⟨b, off, c, rfl, h1, h2, fun k hk => ?_⟩
  have e := fun i hi => hr (4 * k + i) _ ((rowW_at os ds k h.len hk i hi).trans (List.getElem?_eq_getElem (show i < (wopC (os.getD k default) (ds.getD k uu)).length from hi)))
  refine ⟨?_, ?_, ?_, ?_⟩
  · have := e 0 (by omega); rwa [show off + (4 * k + 0) = off + k * 4 by omega] at this
  · have := e 1 (by omega); rwa [show off + (4 * k + 1) = off + k * 4 + 1 by omega] at this
  · have := e 2 (by omega); rwa [show off + (4 * k + 2) = off + k * 4 + 2 by omega] at this
  · have := e 3 (by omega); rwa [show off + (4 * k + 3) = off + k * 4 + 3 by omega] at this
theorem WOpsAt.shape {w : World} {v : Value} {os : List WOp} {ds : List (Value × Value)} {es : List (List Value)} (h : WOpsAt w v os ds es) : ∃ A c, v = .slice A os.length c ∧ os.length ≤ c ∧ c ≤ 9223372036854775807 := by
  rcases h.src with ⟨rfl, h, _⟩ | ⟨a, c, rfl, _, h1, h2, _⟩
  · rw [h]; exact ⟨none, 0, rfl, Nat.le_refl _, by omega⟩
  · exact ⟨_, c, rfl, h1, h2⟩
theorem ChsAt.below {w w' : World} {v : Value} {cs : List ChI} {ds : List Value} (h : ChsAt w v cs ds) (hc : Chg (fun i => w.heap.size ≤ i) w w') : ChsAt w' v cs ds :=
  ⟨⟨h.ch.len, src_below h.ch.src (by decide) hc⟩, fun j hj => src_below (h.dat j hj) (by decide) hc⟩
theorem WOpsAt.below {w w' : World} {v : Value} {os : List WOp} {ds : List (Value × Value)} {es : List (List Value)} (h : WOpsAt w v os ds es) (hc : Chg (fun i => w.heap.size ≤ i) w w') : WOpsAt w' v os ds es :=
  ⟨h.len, src_below h.src (by decide) hc, fun j hj => (h.chs j hj).below hc, fun j hj => src_below (h.lost j hj) (by decide) hc⟩
/-- Changes that came in lie below all that is new. -/
theorem ChsAt.ok {w w' : World} {p b : Nat} {sv v : Value} {cs : List ChI} {ds : List Value} (h : ChsAt w v cs ds) (hc : Chg (fun i => w.heap.size ≤ i) w w') (hn : cs.length ≤ 1000) (hl : ∀ j, j < cs.length → (cs.getD j default).dat.length ≤ 1000000) (ho : ∀ j, OwnD p b sv j → w.heap.size ≤ j) : ChsOk w' p b sv v cs ds := by
  have h' := h.below hc
  refine ⟨h'.ch, hn, h'.dat, hl, fun g hg h0 hd => ?_, fun j g hj hg h0 hd => ?_⟩
  · have := src_lt h.ch.src h0 (by decide) g hg
    have := ho g hd
    omega
  · have := src_lt (h.dat j hj) h0 (by decide) g hg
    have := ho g hd
    omega
theorem ChsAt.q {w : World} {v : Value} {cs : List ChI} {ds : List Value} (h : ChsAt w v cs ds) (q : Nat) (hq : w.heap.size ≤ q) : ChsQ q v cs ds := by
  refine ⟨fun g hg h0 e => ?_, fun j g hj hg h0 e => ?_⟩
  · have := src_lt h.ch.src h0 (by decide) g hg; omega
  · have := src_lt (h.dat j hj) h0 (by decide) g hg; omega
/-! Readings -/
section
variable {H : Type} {enc : TypeId × Value → H} {P : Program} {w : World} {base : Nat} {spare : Nat → Bool} {held : Bool}
theorem trod_struct2 {t : TypeId} {f0 f1 : Field} {fuel : Nat} {cs : List Value} {x : DataW H × List MemPlace} (ht : P.underlying t = some (.struct #[f0, f1])) (h : DataW.trod enc P w base spare held fuel t cs = some x) :
    ∃ y0 y1 n, cs.length = P.cellsOf t ∧ DataW.trod enc P w base spare held n f0.type ((cs.drop f0.offset).take (P.cellsOf f0.type)) = some y0 ∧ DataW.trod enc P w base spare held n f1.type ((cs.drop f1.offset).take (P.cellsOf f1.type)) = some y1 := by
  obtain ⟨xs, n, _, rfl, hl, hlen, hf⟩ := DataW.trod_struct ht h
  match xs, hlen with
  | [y0, y1], _ => exact ⟨y0, y1, n, hl, by simpa using hf 0 f0 rfl, by simpa using hf 1 f1 rfl⟩
theorem trod_struct4 {t : TypeId} {f0 f1 f2 f3 : Field} {fuel : Nat} {cs : List Value} {x : DataW H × List MemPlace} (ht : P.underlying t = some (.struct #[f0, f1, f2, f3])) (h : DataW.trod enc P w base spare held fuel t cs = some x) :
    ∃ y0 y1 y2 y3 n, cs.length = P.cellsOf t ∧ DataW.trod enc P w base spare held n f0.type ((cs.drop f0.offset).take (P.cellsOf f0.type)) = some y0 ∧
      DataW.trod enc P w base spare held n f1.type ((cs.drop f1.offset).take (P.cellsOf f1.type)) = some y1 ∧ DataW.trod enc P w base spare held n f2.type ((cs.drop f2.offset).take (P.cellsOf f2.type)) = some y2 ∧
      DataW.trod enc P w base spare held n f3.type ((cs.drop f3.offset).take (P.cellsOf f3.type)) = some y3 := by
  obtain ⟨xs, n, _, rfl, hl, hlen, hf⟩ := DataW.trod_struct ht h
  match xs, hlen with
  | [y0, y1, y2, y3], _ => exact ⟨y0, y1, y2, y3, n, hl, by simpa using hf 0 f0 rfl, by simpa using hf 1 f1 rfl, by simpa using hf 2 f2 rfl, by simpa using hf 3 f3 rfl⟩
end
section
variable {H : Type} {enc : TypeId × Value → H} {W : World}
set_option maxRecDepth 100000
theorem cells54 : Try.prog.cellsOf 54 = 4 := by kernel_rfl
theorem cells89 : Try.prog.cellsOf 89 = 2 := by kernel_rfl
theorem cells52 : Try.prog.cellsOf 52 = 1 := by kernel_rfl
def ChOk (c : ChI) : Prop := I64 c.at_ ∧ Bytes c.dat
theorem trod_ch {fuel : Nat} {cs : List Value} {x : DataW H × List MemPlace} (h : DataW.trod enc Try.prog W 0 (fun _ => true) true fuel 89 cs = some x) : ∃ y : ChI × Value, cs = [.int .i64 y.1.at_, y.2] ∧ SlB W y.2 y.1.dat ∧ ChOk y.1 := by
  obtain ⟨y0, y1, n, hl, h0, h1⟩ := trod_struct2 Try.underlying89 h
  rw [cells89] at hl
  match cs, hl with
  | [c0, c1], _ =>
    simp only [cells3, cells28] at h0 h1
    obtain ⟨a, ea, wa⟩ := trod_i64 Try.underlying3 h0
    obtain ⟨v, xs, ev, hv, hb⟩ := trod_bytes h1
    simp at ea ev
    subst ea ev
    exact ⟨(⟨a, xs⟩, c1), rfl, hv, wa, hb⟩
theorem trod_chs {fuel : Nat} {cv : List Value} {x : DataW H × List MemPlace} (h : DataW.trod enc Try.prog W 0 (fun _ => true) true fuel 52 cv = some x) : ∃ v cs ds, cv = [v] ∧ ChsAt W v cs ds ∧ ∀ j, j < cs.length → ChOk (cs.getD j default) := by
  rcases open_slice Try.underlying52 h with ⟨hcs, hx⟩ | ⟨a, len, cap, m, n, D, Pl, hcs, _, hl, hm, hmm, _, hx⟩
  · exact ⟨_, [], [], hcs, ⟨⟨rfl, .inl ⟨rfl, rfl, rfl⟩⟩, fun j hj => by simp at hj⟩, fun j hj => by simp at hj⟩
  · simp at hmm
    have each : ∀ i, i < len → ∃ y : ChI × Value, (∀ q, q < 2 → W.cell? (a.add (2 * i + q)) = ([.int .i64 y.1.at_, y.2] : List Value)[q]?) ∧ SlB W y.2 y.1.dat ∧ ChOk y.1 := fun i hi => by
      obtain ⟨cs', h1, h2⟩ := hx i (by omega)
      obtain ⟨y, rfl, hy, hok⟩ := trod_ch h2
      refine ⟨y, fun q hq => ?_, hy, hok⟩
      rw [cells89] at h1
      have := (World.cells?_some h1).2.2 q hq
      rw [add_add, show i * 2 + q = 2 * i + q by omega] at this
      exact this
    obtain ⟨Y, hY⟩ := choose_lt each
    let cs := (List.range len).map fun i => (Y i).1
    let ds := (List.range len).map fun i => (Y i).2
    have hlo : cs.length = len := by simp [cs]
    have hld : ds.length = len := by simp [ds]
    have ho : ∀ j, j < len → cs.getD j default = (Y j).1 := fun j hj => by simp [cs, List.getD_eq_getElem?_getD, hj]
    have hd : ∀ j, j < len → ds.getD j undef = (Y j).2 := fun j hj => by simp [ds, List.getD_eq_getElem?_getD, hj]
    refine ⟨_, cs, ds, hcs, ⟨⟨by rw [hlo, hld], .inr ⟨a, cap, by rw [hlo], by rw [rowC_len _ _ (by rw [hlo, hld])]; omega, by rw [hlo]; exact hl, by simpa [maxLen] using hm, fun j u hu => ?_⟩⟩, fun j hj => ?_⟩, fun j hj => ?_⟩
    · have hj : j < 2 * len := by have := (List.getElem?_eq_some_iff.1 hu).1; rwa [rowC_len _ _ (by rw [hlo, hld]), hlo] at this
      have hk : j / 2 < len := by omega
      have e := rowC_at cs ds (j / 2) (by rw [hlo, hld]) (by rw [hlo]; exact hk)
      rw [ho _ hk, hd _ hk] at e
      have h01 : j % 2 = 0 ∨ j % 2 = 1 := by omega
      rcases h01 with h0 | h1
      · have hj2 : 2 * (j / 2) = j := by omega
        rw [hj2] at e
        rw [hu] at e
        have := (hY (j / 2) hk).1 0 (by omega)
        rw [show 2 * (j / 2) + 0 = j by omega] at this
        rw [this, e.1]; rfl
      · have hj2 : 2 * (j / 2) + 1 = j := by omega
        rw [hj2] at e
        rw [hu] at e
        have := (hY (j / 2) hk).1 1 (by omega)
        rw [show 2 * (j / 2) + 1 = j by omega] at this
        rw [this, e.2]; rfl
    · rw [ho j (by omega), hd j (by omega)]; exact (hY j (by omega)).2.1
    · rw [ho j (by omega)]; exact (hY j (by omega)).2.2
def WOpOk (o : WOp) : Prop := I64 o.kind ∧ I64 o.num ∧ (∀ j, j < o.chs.length → ChOk (o.chs.getD j default)) ∧ ∀ j, I64 (o.lost.getD j 0)
theorem trod_wop {fuel : Nat} {cs : List Value} {x : DataW H × List MemPlace} (h : DataW.trod enc Try.prog W 0 (fun _ => true) true fuel 54 cs = some x) : ∃ y : WOp × (Value × Value) × List Value, cs = wopC y.1 y.2.1 ∧ ChsAt W y.2.1.1 y.1.chs y.2.2 ∧ SlI W y.2.1.2 y.1.lost ∧ WOpOk y.1 := by
  obtain ⟨y0, y1, y2, y3, n, hl, h0, h1, h2, h3⟩ := trod_struct4 Try.underlying54 h
  rw [cells54] at hl
  match cs, hl with
  | [c0, c1, c2, c3], _ =>
    simp only [cells3, cells52, cells29] at h0 h1 h2 h3
    obtain ⟨a, ea, wa⟩ := trod_i64 Try.underlying3 h0
    obtain ⟨b, eb, wb⟩ := trod_i64 Try.underlying3 h1
    obtain ⟨v, xs, ds, ev, hv, hb⟩ := trod_chs h2
    obtain ⟨u, zs, eu, hu, hz⟩ := trod_nums h3
    simp at ea eb ev eu
    subst ea eb ev eu
    exact ⟨(⟨a, b, xs, zs⟩, (c2, c3), ds), rfl, hv, hu, wa, wb, hb, hz⟩
theorem open_wops {base : Nat} {v : Value} {d : DataW H} {p : List MemPlace} (hv : Value.okWide Try.prog W .any base 44 v) (h : DataW.Trod enc Try.prog W 0 (fun _ => true) true 44 v d p) : ∃ os ds es, WOpsAt W v os ds es ∧ ∀ j, j < os.length → WOpOk (os.getD j default) := by
  obtain ⟨a0, len, cap, rfl⟩ := okWide_slice Try.underlying44 hv
  obtain ⟨fuel, hf⟩ := h
  rcases open_slice Try.underlying44 hf with ⟨hcs, hx⟩ | ⟨a, len', cap', m, n, D, Pl, hcs, _, hl, hm, hmm, _, hx⟩
  · simp [Value.cells] at hcs
    obtain ⟨rfl, rfl, rfl⟩ := hcs
    exact ⟨[], [], [], ⟨rfl, .inl ⟨rfl, rfl, rfl⟩, fun j hj => by simp at hj, fun j hj => by simp at hj⟩, fun j hj => by simp at hj⟩
  · simp [Value.cells] at hcs
    obtain ⟨rfl, rfl, rfl⟩ := hcs
    simp at hmm
    have each : ∀ i, i < len → ∃ y : WOp × (Value × Value) × List Value, (∀ q, q < 4 → W.cell? (a.add (4 * i + q)) = (wopC y.1 y.2.1)[q]?) ∧ ChsAt W y.2.1.1 y.1.chs y.2.2 ∧ SlI W y.2.1.2 y.1.lost ∧ WOpOk y.1 := fun i hi => by
      obtain ⟨cs', h1, h2⟩ := hx i (by omega)
      obtain ⟨y, rfl, hy, hy2, hok⟩ := trod_wop h2
      refine ⟨y, fun q hq => ?_, hy, hy2, hok⟩
      rw [cells54] at h1
      have := (World.cells?_some h1).2.2 q hq
      rw [add_add, show i * 4 + q = 4 * i + q by omega] at this
      exact this
    obtain ⟨Y, hY⟩ := choose_lt each
    let os := (List.range len).map fun i => (Y i).1
    let ds := (List.range len).map fun i => (Y i).2.1
    let es := (List.range len).map fun i => (Y i).2.2
    have hlo : os.length = len := by simp [os]
    have hld : ds.length = len := by simp [ds]
    have ho : ∀ j, j < len → os.getD j default = (Y j).1 := fun j hj => by simp [os, List.getD_eq_getElem?_getD, hj]
    have hd : ∀ j, j < len → ds.getD j uu = (Y j).2.1 := fun j hj => by simp [ds, List.getD_eq_getElem?_getD, hj]
    have he : ∀ j, j < len → es.getD j [] = (Y j).2.2 := fun j hj => by simp [es, List.getD_eq_getElem?_getD, hj]
    refine ⟨os, ds, es, ⟨by rw [hlo, hld], .inr ⟨a, cap, by rw [hlo], by rw [rowW_len _ _ (by rw [hlo, hld])]; omega, by rw [hlo]; exact hl, by simpa [maxLen] using hm, fun j u hu => ?_⟩, fun j hj => ?_, fun j hj => ?_⟩, fun j hj => ?_⟩
    · have hj : j < 4 * len := by have := (List.getElem?_eq_some_iff.1 hu).1; rwa [rowW_len _ _ (by rw [hlo, hld]), hlo] at this
      have hk : j / 4 < len := by omega
      have e := rowW_at os ds (j / 4) (by rw [hlo, hld]) (by rw [hlo]; exact hk) (j % 4) (Nat.mod_lt _ (by decide))
      rw [show 4 * (j / 4) + j % 4 = j by omega, hu, ho _ hk, hd _ hk] at e
      have := (hY (j / 4) hk).1 (j % 4) (Nat.mod_lt _ (by decide))
      rw [show 4 * (j / 4) + j % 4 = j by omega, ← e] at this
      exact this
    · rw [ho j (by omega), hd j (by omega), he j (by omega)]; exact (hY j (by omega)).2.1
    · rw [ho j (by omega), hd j (by omega)]; exact (hY j (by omega)).2.2.1
    · rw [ho j (by omega)]; exact (hY j (by omega)).2.2.2
end
end Go.Proofs.Ytkndnlhlglgmfaa
namespace Go.Proofs.Ytkndnlhlglgmfaa
open Go.RowKit
def smallC (cs : List ChI) : Bool := cs.all (fun c => decide (c.dat.length ≤ 200))
def smallO (o : WOp) : Bool := decide (o.chs.length ≤ 20) && decide (o.lost.length ≤ 40) && smallC o.chs
def smallW (os : List WOp) : Bool := os.all smallO
theorem all_false {α : Type} {l : List α} {f : α → Bool} {k : Nat} (hk : k < l.length) (d : α) (h : f (l.getD k d) = false) : l.all f = false := by
  rw [List.all_eq_false]
  refine ⟨l.getD k d, ?_, by rw [h]; simp⟩
  rw [List.getD_eq_getElem?_getD, List.getElem?_eq_getElem hk]
  exact List.getElem_mem _
theorem all_true {α : Type} {l : List α} {f : α → Bool} (d : α) (h : ∀ j, j < l.length → f (l.getD j d) = true) : l.all f = true := by
  rw [List.all_eq_true]
  intro o ho
  obtain ⟨j, hj, rfl⟩ := List.mem_iff_getElem.1 ho
  have := h j hj
  rw [List.getD_eq_getElem?_getD, List.getElem?_eq_getElem hj] at this
  exact this
set_option maxRecDepth 100000 in
set_option maxHeartbeats 4000000 in
theorem wsmall_any (w : World) (v : Value) (os : List WOp) (ds : List (Value × Value)) (es : List (List Value)) (h : WOpsAt w v os ds es) (most : Int) :
    Calls Try.prog 24 #[v, .int .i64 most] w (fun e w' => e = .returned (.bool (smallW os && decide ((os.length : Int) ≤ most))) ∧ Below w.heap.size w w') := by
  obtain ⟨A, c, rfl, hc1, hc2⟩ := h.shape
  have HO := Lib.hid h
  clear h
  go_enter Try.func24, Try.ntmps24
  go_wp2_with fail
  go_loopw [11] (fun i wr => ∃ (k : Nat), k ≤ os.length ∧ i = .int .i64 k ∧ (∀ j, j < k → smallO (os.getD j default) = true) ∧ Chg (fun i => w.heap.size ≤ i) w wr) (fun i _ => os.length - (intOf i).toNat)
  case atStart => exact ⟨0, by omega, rfl, fun j hj => by omega, Chg.refl _ _⟩
  case round =>
    rename World => wr
    obtain ⟨k, hk, rfl, hall, hch⟩ := hrel
    by_cases hk2 : (k : Int) < os.length
    · have ho := HO.out.below hch
      have hsz := hch.size
      obtain ⟨b, off, cc, he, _, _, hcells⟩ := ho.cells (by omega)
      injection he with e1 e2 e3
      subst e1
      obtain ⟨r0, r1, r2, r3⟩ := hcells k (by omega)
      have hcc := ho.chs k (by omega)
      have hll := ho.lost k (by omega)
      obtain ⟨⟨d1, d2⟩, hde⟩ : ∃ d, ds.getD k uu = d := ⟨_, rfl⟩
      obtain ⟨o, hoe⟩ : ∃ o, os.getD k default = o := ⟨_, rfl⟩
      obtain ⟨ec, hece⟩ : ∃ o, es.getD k [] = o := ⟨_, rfl⟩
      rw [hde] at r2 r3 hcc hll
      rw [hoe] at r0 r1 hcc hll
      rw [hece] at hcc
      dsimp only at r2 r3 hcc hll
      obtain ⟨A1, c1, rfl, x1, x2⟩ := hcc.ch.shape
      obtain ⟨A2, c2, rfl, y1, y2⟩ := hll.shape
      obtain ⟨W4, hW4⟩ : ∃ W4, W4 = wr.alloc (.cells #[.int .i64 o.kind, .int .i64 o.num, .slice A1 o.chs.length c1, .slice A2 o.lost.length c2] 54) := ⟨_, rfl⟩
      have hch4 : Chg (fun i => wr.heap.size ≤ i) wr W4 := by rw [hW4]; exact (Chg.refl _ wr).alloc _
      have hlast : W4.heap[wr.heap.size]? = some (.cells #[.int .i64 o.kind, .int .i64 o.num, .slice A1 o.chs.length c1, .slice A2 o.lost.length c2] 54 (0, 0)) := by rw [hW4]; exact heap_alloc_last wr _
      have HALL := Lib.hid hall
      have HOE := Lib.hid hoe
      have HCC := Lib.hid (hcc.below hch4)
      have HCH := Lib.hid (hch.then hch4 (fun i hi => .inr (by omega)))
      clear hall hch ho hcells hcc hll hde hoe hece hch4
      by_cases hb1 : (20 : Int) < o.chs.length
      · have HF := Lib.hid (show smallW os = false from all_false (show k < os.length by omega) default (by rw [HOE.out]; unfold smallO; simp; omega))
        go_wp2_with fail
        go_ret
        exact ⟨by rw [HF.out]; rfl, (hW4 ▸ HCH.out).below (Nat.le_refl _) (fun _ h => h)⟩
      by_cases hb2 : (40 : Int) < o.lost.length
      · have HF := Lib.hid (show smallW os = false from all_false (show k < os.length by omega) default (by rw [HOE.out]; unfold smallO; simp; omega))
        go_wp2_with fail
        go_ret
        exact ⟨by rw [HF.out]; rfl, (hW4 ▸ HCH.out).below (Nat.le_refl _) (fun _ h => h)⟩
      go_wp2_with fail
      rw [← hW4]
      have HL := Lib.hid hlast
      have hsz4 := HCH.out.size
      clear hW4 hlast r0 r1 r2 r3
      go_loopw [28] (fun i wr => ∃ (m : Nat), m ≤ o.chs.length ∧ i = .int .i64 m ∧ (∀ j, j < m → (o.chs.getD j default).dat.length ≤ 200) ∧ Chg (fun i => W4.heap.size ≤ i) W4 wr) (fun i _ => o.chs.length - (intOf i).toNat)
      case atStart => exact ⟨0, by omega, rfl, fun j hj => by omega, Chg.refl _ _⟩
      case round =>
        rename World => wi
        obtain ⟨m, hm, rfl, halm, hchm⟩ := hrel
        have hcc := HCC.out.below hchm
        by_cases hm2 : (m : Int) < o.chs.length
        · obtain ⟨bb, off2, cc2, he2, hcells2⟩ := hcc.ch.cells (by omega)
          injection he2 with f1 f2 f3
          subst f1
          obtain ⟨s0, s1⟩ := hcells2 m (by omega)
          have hdd := hcc.dat m (by omega)
          obtain ⟨d, hde⟩ : ∃ d, ec.getD m undef = d := ⟨_, rfl⟩
          obtain ⟨cv, hce⟩ : ∃ c, o.chs.getD m default = c := ⟨_, rfl⟩
          rw [hde] at s1 hdd
          rw [hce] at s0 hdd
          obtain ⟨A3, c3, rfl, _, _⟩ := hdd.shape
          obtain ⟨W5, hW5⟩ : ∃ W5, W5 = wi.alloc (.cells #[.int .i64 cv.at_, .slice A3 cv.dat.length c3] 89) := ⟨_, rfl⟩
          have HCM : Hid (Chg (fun i => W4.heap.size ≤ i) W4 W5) := Lib.hid (by rw [hW5]; exact hchm.alloc _)
          have HALM := Lib.hid halm
          have HCE := Lib.hid hce
          have HW5 := Lib.hid hW5
          clear hcc hcells2 hdd hde hce halm hchm hW5
          by_cases hb3 : (200 : Int) < cv.dat.length
          · have HF := Lib.hid (show smallW os = false from all_false (show k < os.length by omega) default (by
              rw [HOE.out]
              have : smallC o.chs = false := all_false (show m < o.chs.length by omega) default (by rw [HCE.out]; simp; omega)
              unfold smallO; rw [this]; simp))
            go_wp2_with fail
            go_ret
            rw [← HW5.out]
            exact ⟨by rw [HF.out]; rfl, (HCH.out.then HCM.out (fun i hi => .inr (by omega))).below (Nat.le_refl _) (fun _ h => h)⟩
          · go_wp2_with fail
            rw [← HW5.out]
            refine ⟨⟨m + 1, by omega, by go_num, fun j hj => ?_, HCM.out⟩, by simp [intOf]; omega⟩
            by_cases e : j = m
            · rw [e, HCE.out]; omega
            · exact HALM.out j (by omega)
        · obtain rfl : m = o.chs.length := by omega
          have HCH5 := Lib.hid (HCH.out.then hchm (fun i hi => .inr (by omega)))
          have HSM : Hid (smallO o = true) := Lib.hid (by
            have : smallC o.chs = true := all_true default (fun j hj => by simpa using halm j hj)
            unfold smallO; rw [this]; simp; omega)
          clear hcc halm hchm
          go_wp2_with fail
          have HNX : Hid (∀ j, j < k + 1 → smallO (os.getD j default) = true) := Lib.hid (fun j hj => by
            by_cases e : j = k
            · rw [e, HOE.out]; exact HSM.out
            · exact HALL.out j (by omega))
          exact ⟨⟨_, _, _, _, ⟨k + 1, by omega, by go_num, HNX.out, HCH5.out⟩, rfl, rfl, rfl, rfl⟩, by simp [intOf]; omega⟩
    · obtain rfl : k = os.length := by omega
      have HF := Lib.hid (show smallW os = true from all_true default hall)
      have HCH := Lib.hid hch
      clear hall hch
      go_wp2_with fail
      go_ret
      exact ⟨by rw [HF.out]; rfl, HCH.out.below (Nat.le_refl _) (fun _ h => h)⟩
/-- The home sectors. -/
def homesN (x : Dk) (k : Nat) : List (List Int) := (List.range k).map (fun (i : Nat) => nowI x (1 + (i : Int)))
theorem homesN_len (x : Dk) (k : Nat) : (homesN x k).length = k := by simp [homesN]
theorem homesN_succ (x : Dk) (k : Nat) : homesN x (k + 1) = homesN x k ++ [nowI x (1 + (k : Int))] := by simp [homesN, List.range_succ]
def HmPost (w : World) (l : List (List Int)) (e : Ending) (w' : World) : Prop := ∃ v, e = .returned (.tuple #[v, .bool true]) ∧ w'.ownsRow w.heap.size 9 1 v l.length (strV l) ∧ Below w.heap.size w w'
set_option maxRecDepth 100000 in
set_option maxHeartbeats 4000000 in
theorem homes_any (w : World) (q p b : Nat) (sv : Value) (x : Dk) (kk : Nat) (home : Nat) (hw : WalAt w q p home false) (hd : DskV w p b sv x kk) (hwf : Wf x kk) (hdn : x.down = false) (hh : home ≤ 900) (hn : home < x.has.length) : Calls Try.prog 35 #[.pointer (some ⟨q, 0, none⟩), .int .i64 home] w (HmPost w (homesN x home)) := by
  have HW := Lib.hid hw
  have HD := Lib.hid hd
  have HWF := Lib.hid hwf
  have HRD : Hid (∀ k : Nat, k < home → wreadI x home false (k : Int) = (nowI x (1 + (k : Int)), 0)) := Lib.hid (fun k hk => by
    unfold wreadI readI nowI
    rw [if_neg (by simp), if_neg (by omega), if_neg (by rw [hdn]; decide), if_neg (by omega)])
  clear hw hd hwf hdn hn
  go_enter Try.func35, Try.ntmps35
  go_wp2_with fail
  go_loopw [6, 11] (fun o i wr => ∃ (k c : Nat) (B : Option Addr), k ≤ home ∧ i = .int .i64 k ∧ o = .slice B k c ∧ wr.ownsRow w.heap.size 9 1 (.slice B k c) k (strV (homesN x k)) ∧ Chg (fun i => w.heap.size ≤ i) w wr) (fun _ i _ => home - (intOf i).toNat)
  case atStart => exact ⟨0, 0, none, by omega, rfl, rfl, World.ownsRow_nil _ _ _ _, Chg.refl _ _⟩
  case round =>
    rename World => wr
    obtain ⟨k, c, B, hk, rfl, rfl, hrow, hch⟩ := hrel
    have hsz := hch.size
    by_cases hk2 : (k : Int) < home
    · have hup := up_below (hch.below_none (fun i hi h => by omega))
      have hrd := wread_any wr q p b sv x kk home false (HW.out.up hup) (HD.out.up hup) HWF.out ⟨by omega, by omega⟩ (k : Int) (by unfold I64; omega)
      rw [HRD.out k (by omega)] at hrd
      have HR := Lib.hid hrd
      have HROW := Lib.hid hrow
      have HCH := Lib.hid hch
      clear hup hrd hrow hch
      go_wp2_with fail
      refine HR.out.mono ?_
      rintro e w1 ⟨v, rfl, hv, hb⟩
      obtain ⟨A1, c1, rfl⟩ := own_shape hv
      have hst := sl_string (slb_of hv)
      obtain ⟨s, hs⟩ : ∃ s, strOfNums (nowI x (1 + (k : Int))) = s := ⟨_, rfl⟩
      rw [hs] at hst
      have hu1 := up_below hb
      have hrow1 := own_chg HROW.out hu1 (fun _ _ h => h)
      have hkl : (homesN x k).length = k := homesN_len x k
      rw [show w1.ownsRow w.heap.size 9 1 (.slice B k c) k (strV (homesN x k)) = w1.ownsRow w.heap.size 9 1 (.slice B k c) (homesN x k).length (strV (homesN x k)) by rw [hkl]] at hrow1
      obtain ⟨A2, c2, w2, hrun, ho2, hc2, hb2⟩ := push_strV w1 w.heap.size (.slice B k c) (homesN x k) hrow1 (nowI x (1 + (k : Int))) s hs (by have := hu1.size; omega) (by omega)
      have hl2 : (homesN x k ++ [nowI x (1 + (k : Int))]).length = k + 1 := by simp [hkl]
      rw [hl2, ← homesN_succ] at ho2
      rw [hl2] at hrun
      have HR2 := Lib.hid hrun
      have HO2 := Lib.hid ho2
      have HC2 : Hid (Chg (fun i => w.heap.size ≤ i) w w2) := Lib.hid ((HCH.out.trans (hu1.mono (fun _ _ h => h.elim))).then hc2 (fun i hi => .inl (own_ge hrow1 i hi)))
      clear hv hb hs hu1 hrow1 hkl hrun ho2 hc2 hb2 hl2 HR HROW HCH
      go_wp2_with (at_builtin; refine wpList_run_append rfl (.tmp 22) (.tmp 25) 51 rfl _ _ rfl rfl 51 rfl HR2.out ?_)
      exact ⟨⟨k + 1, c2, A2, by omega, by go_num, rfl, HO2.out, HC2.out⟩, by simp [intOf]; omega⟩
    · obtain rfl : k = home := by omega
      have HROW := Lib.hid hrow
      have HCH := Lib.hid hch
      clear hrow hch
      go_wp2_with fail
      go_ret2
      exact ⟨_, rfl, by rw [homesN_len]; exact HROW.out, HCH.out.below (Nat.le_refl _) (fun _ h => h)⟩
end Go.Proofs.Ytkndnlhlglgmfaa
namespace Go.Proofs.Ytkndnlhlglgmfaa
open Go.RowKit
/-- Strings that are read. -/
def SlS (w : World) (v : Value) (l : List (List Int)) : Prop := Src w v 1 l.length (strV l)
theorem slS_of {w : World} {base : Nat} {v : Value} {n : Nat} {l : List (List Int)} (h : w.ownsRow base 9 1 v n (strV l)) (hn : n = l.length) : SlS w v l := by
  subst hn
  rcases h.2 with ⟨hv, h0⟩ | ⟨g, cap, cur, rfl, _, hg, h1, h2, _⟩
  · obtain rfl : l = [] := List.eq_nil_of_length_eq_zero h0
    exact .inl ⟨hv, rfl, rfl⟩
  · exact .inr ⟨⟨g, 0, none⟩, cap, rfl, h.1, h1, by simpa [maxLen] using h2, fun j u hu => World.ownsRow.cells h rfl j u hu⟩
theorem SlS.shape {w : World} {v : Value} {l : List (List Int)} (h : SlS w v l) : ∃ A c, v = .slice A l.length c ∧ l.length ≤ c ∧ c ≤ 9223372036854775807 := by
  rcases h with ⟨rfl, h, _⟩ | ⟨a, c, rfl, _, h1, h2, _⟩
  · rw [h]; exact ⟨none, 0, rfl, Nat.le_refl _, by omega⟩
  · exact ⟨_, c, rfl, h1, h2⟩
theorem SlS.cell {w : World} {A : Option Addr} {n c : Nat} {l : List (List Int)} (h : SlS w (.slice A n c) l) (k : Nat) (hk : k < l.length) : ∃ b off, A = some ⟨b, off, none⟩ ∧ w.cell? ⟨b, off + k, none⟩ = some (.string (strOfNums (l.getD k []))) := by
  obtain ⟨b, off, c', he, _, _, hr⟩ := Src.form h (by rw [strV_len]; omega)
  injection he with e1 e2 e3
  exact ⟨b, off, e1, hr k _ (strV_at hk)⟩
theorem strV_set (l : List (List Int)) (k : Nat) (xs : List Int) : (strV l).set k (.string (strOfNums xs)) = strV (l.set k xs) := by
  unfold strV
  rw [List.map_set]
/-- Home sectors behind changes. -/
def chgd (l : List (List Int)) (cs : List ChI) : Nat → List (List Int)
  | 0 => l
  | k + 1 => (chgd l cs k).set (cs.getD k default).at_.toNat (cs.getD k default).dat
theorem chgd_len (l : List (List Int)) (cs : List ChI) : ∀ k, (chgd l cs k).length = l.length
  | 0 => rfl
  | k + 1 => by unfold chgd; rw [List.length_set]; exact chgd_len l cs k
def sameL (a b : List (List Int)) : Bool := decide (a.length = b.length) && (List.range a.length).all (fun i => eqS (a.getD i []) (b.getD i []))
theorem own_empty (w : World) (base : Nat) (hb : base ≤ w.heap.size) : (w.alloc (.cells #[] 9)).ownsRow base 9 1 (.slice (some ⟨w.heap.size, 0, none⟩) 0 0) 0 [] :=
  ⟨rfl, .inr ⟨w.heap.size, 0, #[], rfl, hb, heap_alloc_last w _, Nat.le_refl _, by unfold maxLen; omega, by simp, by simp⟩⟩
set_option maxRecDepth 100000 in
set_option maxHeartbeats 4000000 in
theorem changed_any (w : World) (v : Value) (l : List (List Int)) (h : SlS w v l) (u : Value) (cs : List ChI) (ds : List Value) (hc : ChsAt w u cs ds) (hl : l.length ≤ 900) (ha : ∀ j, j < cs.length → 0 ≤ (cs.getD j default).at_ ∧ (cs.getD j default).at_ < l.length) :
    Calls Try.prog 34 #[v, u] w (fun e w' => ∃ r, e = .returned r ∧ w'.ownsRow w.heap.size 9 1 r l.length (strV (chgd l cs cs.length)) ∧ Below w.heap.size w w') := by
  obtain ⟨A, c, rfl, hc1, hc2⟩ := h.shape
  obtain ⟨A2, c2, rfl, hd1, hd2⟩ := hc.ch.shape
  have hu0 : Up w (w.alloc (.cells #[] 9)) := (Chg.refl _ w).alloc _
  obtain ⟨v', w', hrun, ho, hg, _, hb⟩ := ap_run (P := Try.prog) (w.alloc (.cells #[] 9)) 51 51 w.heap.size 9 (.string ⟨#[]⟩) 1 16 Try.underlying51 (by kernel_rfl) rfl (by decide) _ 0 [] (own_empty w w.heap.size (Nat.le_refl _)) (.slice A l.length c) l.length (strV l) (Src.chg h hu0 (fun _ _ _ h => h) (by decide)) (by intro u hu; obtain ⟨x, _, rfl⟩ := List.mem_map.1 hu; rfl) (by omega) (by omega) hu0.size
  rw [Nat.zero_add, List.nil_append] at ho
  obtain ⟨B, c3, rfl⟩ := own_shape ho
  have HRUN := Lib.hid hrun
  have HO := Lib.hid ho
  have HCW : Hid (Chg (fun i => w.heap.size ≤ i) w w') := Lib.hid ((hu0.mono (fun _ _ h => h.elim)).then (Chg.of_grownBy hg) (fun i hi => .inl (by simp [Value.ownBlock] at hi; omega)))
  have HC := Lib.hid hc
  have HA := Lib.hid ha
  clear h hc ha hrun ho hg hb hu0
  go_enter Try.func34, Try.ntmps34
  go_wp2_with (at_builtin; refine wpList_run_append rfl (.tmp 8) (.tmp 9) 51 rfl _ _ rfl rfl 51 rfl HRUN.out ?_)
  clear HRUN
  go_loopw [13] (fun i wr => ∃ (k : Nat), k ≤ cs.length ∧ i = .int .i64 k ∧ wr.ownsRow w.heap.size 9 1 (.slice B l.length c3) l.length (strV (chgd l cs k)) ∧ Chg (fun i => w.heap.size ≤ i) w wr) (fun i _ => cs.length - (intOf i).toNat)
  case atStart => exact ⟨0, by omega, rfl, HO.out, HCW.out⟩
  case round =>
    rename World => wr
    obtain ⟨k, hk, rfl, hrow, hch⟩ := hrel
    by_cases hk2 : (k : Int) < cs.length
    · have hcc := HC.out.below hch
      obtain ⟨bb, off, cc, he, hcells⟩ := hcc.ch.cells (by omega)
      injection he with e1 e2 e3
      subst e1
      obtain ⟨r0, r1⟩ := hcells k (by omega)
      have hdd := hcc.dat k (by omega)
      have hat := HA.out k (by omega)
      obtain ⟨d, hde⟩ : ∃ d, ds.getD k undef = d := ⟨_, rfl⟩
      obtain ⟨cv, hce⟩ : ∃ c, cs.getD k default = c := ⟨_, rfl⟩
      have hsu : chgd l cs (k + 1) = (chgd l cs k).set cv.at_.toNat cv.dat := by rw [← hce]; rfl
      rw [hde] at r1 hdd
      rw [hce] at r0 hdd hat
      obtain ⟨A3, c4, rfl, _, _⟩ := hdd.shape
      obtain ⟨a, hae⟩ : ∃ a : Nat, cv.at_ = a := ⟨cv.at_.toNat, by omega⟩
      rw [hae] at r0 hat hsu
      rw [Int.toNat_natCast] at hsu
      obtain ⟨g, hg⟩ : ∃ g, B = some ⟨g, 0, none⟩ := by
        rcases hrow.2 with ⟨_, hz⟩ | ⟨g', cap, cur, he, _⟩
        · omega
        · injection he with e1; exact ⟨g', e1⟩
      subst hg
      have hgw := own_ge hrow g rfl
      obtain ⟨W5, hW5⟩ : ∃ W5, W5 = wr.alloc (.cells #[.int .i64 a, .slice A3 cv.dat.length c4] 89) := ⟨_, rfl⟩
      have hu5 : Up wr W5 := by rw [hW5]; exact (Chg.refl _ wr).alloc _
      have hlast : W5.heap[wr.heap.size]? = some (.cells #[.int .i64 a, .slice A3 cv.dat.length c4] 89 (0, 0)) := by rw [hW5]; exact heap_alloc_last wr _
      have hst := sl_string (Src.chg hdd hu5 (fun _ _ _ h => h) (by decide))
      obtain ⟨s, hs⟩ : ∃ s, strOfNums cv.dat = s := ⟨_, rfl⟩
      rw [hs] at hst
      have hrow5 := own_chg hrow hu5 (fun _ _ h => h)
      have hcw := World.ownsRow.cells hrow5 rfl a _ (strV_at (by rw [chgd_len]; omega))
      rw [addr_add, Nat.zero_add] at hcw
      have hfz : W5.frozen? ⟨g, a, none⟩ = false := World.ownsRow.frozenAt hrow5 a
      obtain ⟨hs1, _⟩ := World.ownsRow.stored hrow5 a (.string s)
      rw [← hs, strV_set, ← hsu, hs] at hs1
      have HS1 := Lib.hid hs1
      have HC5 : Hid (Chg (fun i => w.heap.size ≤ i) w (W5.setCell ⟨g, a, none⟩ (.string s))) := Lib.hid ((hch.trans (hu5.mono (fun _ _ h => h.elim))).setCell ⟨g, a, none⟩ (.inl hgw) _)
      obtain ⟨old, hold⟩ : ∃ old, strOfNums ((chgd l cs k).getD a []) = old := ⟨_, rfl⟩
      rw [hold] at hcw
      have hal : (a : Int) < l.length := hat.2
      rw [hW5] at hst hcw hfz
      have HW5 := Lib.hid hW5
      clear hcc hcells hdd hat hde hce hsu hae hrow hch hgw hu5 hs hrow5 hs1 hold hlast hW5
      go_wp2_with fail
      rw [← HW5.out]
      exact ⟨⟨k + 1, by omega, by go_num, HS1.out, HC5.out⟩, by simp [intOf]; omega⟩
    · obtain rfl : k = cs.length := by omega
      have HROW := Lib.hid hrow
      have HCH := Lib.hid hch
      clear hrow hch
      go_wp2_with fail
      go_ret
      exact ⟨_, rfl, HROW.out, HCH.out.below (Nat.le_refl _) (fun _ h => h)⟩
set_option maxRecDepth 100000 in
set_option maxHeartbeats 4000000 in
theorem wsame_any (w : World) (v u : Value) (l m : List (List Int)) (h : SlS w v l) (hm : SlS w u m) : Calls Try.prog 36 #[v, u] w (fun e w' => e = .returned (.bool (sameL l m)) ∧ Up w w') := by
  obtain ⟨A, c, rfl, hc1, hc2⟩ := h.shape
  obtain ⟨A2, c2, rfl, hd1, hd2⟩ := hm.shape
  have H := Lib.hid h
  have HM := Lib.hid hm
  clear h hm
  unfold sameL
  by_cases hlen : l.length = m.length
  · have hlen' : ((l.length : Int) != (m.length : Int)) = false := by rw [bne_eq_false_iff_eq]; omega
    rw [decide_eq_true hlen, Bool.true_and]
    obtain ⟨R, hR⟩ : ∃ R, (List.range l.length).all (fun i => eqS (l.getD i []) (m.getD i [])) = R := ⟨_, rfl⟩
    have HR := Lib.hid hR
    rw [hR]
    clear hR
    go_enter Try.func36, Try.ntmps36
    go_wp2_with fail
    go_loopw [13] (fun i wr => ∃ (k : Nat), k ≤ l.length ∧ i = .int .i64 k ∧ (∀ j, j < k → eqS (l.getD j []) (m.getD j []) = true) ∧ Up w wr) (fun i _ => l.length - (intOf i).toNat)
    case atStart => exact ⟨0, by omega, rfl, fun j hj => by omega, Chg.refl _ _⟩
    case round =>
      rename World => wr
      obtain ⟨k, hk, rfl, hall, hch⟩ := hrel
      by_cases hk2 : (k : Int) < l.length
      · obtain ⟨b1, o1, rfl, z1⟩ := H.out.cell k (by omega)
        obtain ⟨b2, o2, rfl, z2⟩ := HM.out.cell k (by omega)
        have z1' := hch.cell z1 (fun h => h)
        have z2' := hch.cell z2 (fun h => h)
        obtain ⟨e, he⟩ : ∃ e, eqS (l.getD k []) (m.getD k []) = e := ⟨_, rfl⟩
        have he2 := he
        unfold eqS at he2
        have HE := Lib.hid he
        obtain ⟨s1, hs1⟩ : ∃ s, strOfNums (l.getD k []) = s := ⟨_, rfl⟩
        obtain ⟨s2, hs2⟩ : ∃ s, strOfNums (m.getD k []) = s := ⟨_, rfl⟩
        rw [hs1] at z1' he2
        rw [hs2] at z2' he2
        have HALL := Lib.hid hall
        have HCH := Lib.hid hch
        have hkm : (k : Int) < m.length := by omega
        clear he z1 z2 hs1 hs2 hall hch
        cases e with
        | true =>
          have HNX : Hid (∀ j, j < k + 1 → eqS (l.getD j []) (m.getD j []) = true) := Lib.hid (fun j hj => by
            by_cases e : j = k
            · rw [e]; exact HE.out
            · exact HALL.out j (by omega))
          go_wp2_with fail
          go_quiet (fail)
          go_wp2_with fail
          exact ⟨⟨k + 1, by omega, by go_num, HNX.out, HCH.out.drewN _⟩, by simp [intOf]; omega⟩
        | false =>
          have HT : Hid (R = false) := Lib.hid (by
            rw [← HR.out, List.all_eq_false]
            exact ⟨k, List.mem_range.2 (by omega), by rw [HE.out]; simp⟩)
          go_wp2_with fail
          go_quiet (fail)
          go_wp2_with fail
          go_ret
          exact ⟨by rw [HT.out]; rfl, HCH.out.drewN _⟩
      · obtain rfl : k = l.length := by omega
        have HT : Hid (R = true) := Lib.hid (by
          rw [← HR.out, List.all_eq_true]
          intro i hi
          exact hall i (List.mem_range.1 hi))
        have HCH := Lib.hid hch
        clear hall hch
        go_wp2_with fail
        go_ret
        exact ⟨by rw [HT.out]; rfl, HCH.out⟩
  · have hlen' : ((l.length : Int) != (m.length : Int)) = true := by rw [bne_iff_ne]; omega
    rw [decide_eq_false hlen, Bool.false_and]
    go_enter Try.func36, Try.ntmps36
    go_wp2_with fail
    go_ret
    exact ⟨rfl, Chg.refl _ _⟩
end Go.Proofs.Ytkndnlhlglgmfaa
namespace Go.Proofs.Ytkndnlhlglgmfaa
open Go.RowKit
theorem quiet_first {P : Program} {f : FuncId} {args : Array Value} {w : World} {n : Nat} {v : Value}
    (h : Calls P f args (w.drewN n) fun e w' => e = .returned v ∧ w' = w.drewN n) :
    Calls P f args (w.drewN n) fun e w'' => e = .returned v ∧ ∃ m, w'' = w.drewN m :=
  h.mono fun _ _ ⟨he, hm⟩ => ⟨he, n, hm⟩
theorem slice_chs (b off n c k : Nat) (hk : k ≤ n) (hn : n ≤ c) (hc : c ≤ 9223372036854775807) (W : World) : (Instr.slice 52 (.slice (some ⟨b, off, none⟩) n c) none (some (.int .i64 (k : Int))) none).run Try.prog W = .ok (.slice (some ⟨b, off, none⟩) k c) W := by
  have he : Try.prog.elem 52 = 89 := by unfold Program.elem; rw [Try.underlying52]
  have hs : ∀ W : World, (sizeOf 89).run Try.prog W = .ok 2 W := fun W => by
    obtain ⟨i, hi, h1⟩ := Option.map_eq_some_iff.1 (show (Try.prog.info? 89).map (·.size) = some 2 by kernel_rfl)
    simp [sizeOf, typeInfo, hi, h1]
  rw [run_slice_h W 52 (some ⟨b, off, none⟩) n c (by rw [he]; exact Try.underlying52) .i64 (k : Int) (by omega) (by omega), he, hs]
  have : sliced (some ⟨b, off, none⟩) 0 (k : Int).toNat c 2 = .slice (some ⟨b, off, none⟩) k c := by
    unfold sliced
    simp [Addr.add]
  simpa using this
/-- Behind so many of the earlier ones. -/
def innE (cs : List ChI) (a : Int) (e0 : Int) (j : Nat) : Int := if a ∈ atsOf (cs.take j) then 10 else e0
theorem innE_succ (cs : List ChI) (a e0 : Int) (j : Nat) (h : j < cs.length) : innE cs a e0 (j + 1) = if (cs.getD j default).at_ = a then 10 else innE cs a e0 j := by
  unfold innE
  have e0 : cs.take (j + 1) = cs.take j ++ [cs.getD j default] := by
    rw [List.take_add_one, List.getElem?_eq_getElem h]
    simp [List.getD_eq_getElem?_getD, List.getElem?_eq_getElem h]
  have e : atsOf (cs.take (j + 1)) = atsOf (cs.take j) ++ [(cs.getD j default).at_] := by
    rw [e0]; unfold atsOf; rw [List.map_append, List.map_singleton]
  rw [e]
  by_cases h1 : (cs.getD j default).at_ = a
  · rw [if_pos h1, if_pos (by rw [h1]; simp)]
  · rw [if_neg h1]
    by_cases h2 : a ∈ atsOf (cs.take j)
    · rw [if_pos h2, if_pos (by simp [h2])]
    · rw [if_neg h2, if_neg (by rw [List.mem_append, List.mem_singleton]; exact fun h => h.elim h2 (fun h => h1 h.symm))]
set_option maxRecDepth 100000 in
set_option maxHeartbeats 4000000 in
theorem wrong_any (w : World) (n size : Nat) (hn : 1 ≤ n ∧ n ≤ 65536) (hs : 16 ≤ size ∧ size ≤ 4096) (home : Int) (hhome : (n : Int) / 2 = home) (u : Value) (cs : List ChI) (ds : List Value) (hc : ChsAt w u cs ds) (hl : cs.length ≤ 1000) :
    Calls Try.prog 32 #[u, .int .i64 n, .int .i64 size] w (fun e w' => e = .returned (.int .i64 (chkI size home (roomI n size home) cs)) ∧ Below w.heap.size w w') := by
  obtain ⟨A, c, rfl, hc1, hc2⟩ := hc.ch.shape
  have HH : Hid (∀ w1, Calls Try.prog 27 #[.int .i64 n] w1 (fun e w' => e = .returned (.int .i64 home) ∧ w' = w1)) := Lib.hid (fun w1 => by rw [← hhome]; exact rhome_any w1 n hn)
  have HR : Hid (∀ w1, Calls Try.prog 30 #[.int .i64 n, .int .i64 size] w1 (fun e w' => e = .returned (.int .i64 (roomI n size home)) ∧ w' = w1)) := Lib.hid (fun w1 => by rw [← hhome]; exact rroom_any w1 n size hn hs)
  have HC := Lib.hid hc
  clear hc hhome
  go_enter Try.func32, Try.ntmps32
  go_wp2_with fail
  go_loopw [7, 14] (fun ev t wr => ∃ k : Nat, k ≤ cs.length ∧ t = .int .i64 k ∧ ev = .int .i64 (chkE size cs k) ∧ (∀ j, j < k → outC home (cs.getD j default) = false) ∧ Chg (fun i => w.heap.size ≤ i) w wr) (fun _ t _ => cs.length - (intOf t).toNat)
  case atStart => exact ⟨0, by omega, rfl, rfl, fun j hj => by omega, Chg.refl _ _⟩
  case round =>
    rename World => wr
    obtain ⟨k, hk, rfl, rfl, hpre, hch⟩ := hrel
    by_cases hk2 : (k : Int) < cs.length
    · have hcc := HC.out.below hch
      obtain ⟨bb, off, cc, he, hcells⟩ := hcc.ch.cells (by omega)
      injection he with e1 e2 e3
      subst e1
      obtain ⟨r0, r1⟩ := hcells k (by omega)
      have hdd := hcc.dat k (by omega)
      obtain ⟨d, hde⟩ : ∃ d, ds.getD k undef = d := ⟨_, rfl⟩
      obtain ⟨cv, hce⟩ : ∃ c, cs.getD k default = c := ⟨_, rfl⟩
      have hmem : cs.getD k default ∈ cs := by rw [List.getD_eq_getElem?_getD, List.getElem?_eq_getElem (show k < cs.length by omega)]; exact List.getElem_mem _
      rw [hde] at r1 hdd
      rw [hce] at r0 hdd hmem
      obtain ⟨A1, c1, rfl, _, _⟩ := hdd.shape
      obtain ⟨a, hae⟩ : ∃ a, cv.at_ = a := ⟨_, rfl⟩
      obtain ⟨nd, hnd⟩ : ∃ nd, cv.dat.length = nd := ⟨_, rfl⟩
      have hces : chkE size cs (k + 1) = if nd ≠ size ∨ a ∈ atsOf (cs.take k) then 10 else chkE size cs k := by rw [← hnd, ← hae, ← hce]; rfl
      have hout : outC home (cs.getD k default) = (decide (a < 0) || decide (home ≤ a)) := by rw [hce, ← hae]; rfl
      have h11 : a < 0 ∨ home ≤ a → chkI size home (roomI n size home) cs = 11 := fun ho => by
        unfold chkI
        rw [if_pos]
        rw [List.any_eq_true]
        refine ⟨cv, hmem, ?_⟩
        unfold outC
        rw [hae]
        simpa using ho
      rw [hae] at r0
      rw [hnd] at r1
      have hsl := fun W => slice_chs bb off cs.length c k (by omega) hc1 hc2 W
      obtain ⟨W5, hW5⟩ : ∃ W5, W5 = wr.alloc (.cells #[.int .i64 a, .slice A1 nd c1] 89) := ⟨_, rfl⟩
      obtain ⟨g5, hg5⟩ : ∃ g5, g5 = wr.heap.size := ⟨_, rfl⟩
      have hcell5 : W5.heap[g5]? = some (.cells #[.int .i64 a, .slice A1 nd c1] 89 (0, 0)) := by rw [hW5, hg5]; exact heap_alloc_last wr _
      have hu5 : Up wr W5 := by rw [hW5]; exact (Chg.refl _ wr).alloc _
      have q50 := cell_of_row W5 g5 0 _ _ _ hcell5
      have q51 := cell_of_row W5 g5 1 _ _ _ hcell5
      have HG5 : Hid (W5.cell? ⟨g5, 0, none⟩ = some (.int .i64 a)) := Lib.hid q50
      have HG51 : Hid (W5.cell? ⟨g5, 1, none⟩ = some (.slice A1 nd c1)) := Lib.hid q51
      have HG5L : Hid (g5 < W5.heap.size) := Lib.hid (Array.getElem?_eq_some_iff.1 hcell5).1
      have HC5 : Hid (ChsAt W5 (.slice (some ⟨bb, off, none⟩) cs.length c) cs ds) := Lib.hid (hcc.below (hu5.mono (fun _ _ h => h.elim)))
      have HCH := Lib.hid (hch.trans (hu5.mono (fun _ _ h => h.elim)))
      have HPRE := Lib.hid hpre
      have HCES := Lib.hid hces
      have HOUT := Lib.hid hout
      have H11 := Lib.hid h11
      have HHQ : Hid (∀ q, Calls Try.prog 27 #[.int .i64 n] (W5.drewN q) (fun e w' => e = .returned (.int .i64 home) ∧ w' = W5.drewN q)) := Lib.hid (fun q => HH.out _)
      clear hcc hcells hdd hde hce hmem hae hnd hces hout h11 hcell5 hu5 hch hpre q50 q51
      go_wp2_with fail
      rw [← hW5, ← hg5]
      clear hW5 hg5 r0 r1
      have q50 := HG5.out
      have q51 := HG51.out
      by_cases hneg : a < 0
      · go_quiet (fail)
        go_wp2_with fail
        go_ret
        exact ⟨by rw [H11.out (.inl hneg)]; rfl, (HCH.out.drewN _).below (Nat.le_refl _) (fun _ h => h)⟩
      by_cases hov : home ≤ a
      · go_quiet ((go_at_call 27; exact quiet_first (HHQ.out _)))
        go_wp2_with fail
        go_ret
        exact ⟨by rw [H11.out (.inr hov)]; rfl, (HCH.out.drewN _).below (Nat.le_refl _) (fun _ h => h)⟩
      have HNX : Hid (∀ j, j < k + 1 → outC home (cs.getD j default) = false) := Lib.hid (fun j hj => by
        by_cases e : j = k
        · rw [e, HOUT.out]; simp; omega
        · exact HPRE.out j (by omega))
      go_quiet ((go_at_call 27; exact quiet_first (HHQ.out _)))
      rename Nat => nq
      obtain ⟨W6, hW6⟩ : ∃ W6, W6 = W5.drewN nq := ⟨_, rfl⟩
      rw [← hW6]
      have HG6 : Hid (W6.cell? ⟨g5, 0, none⟩ = some (.int .i64 a)) := Lib.hid (by rw [hW6]; exact HG5.out)
      have q60 := HG6.out
      have q61 : W6.cell? ⟨g5, 1, none⟩ = some (.slice A1 nd c1) := by rw [hW6]; exact HG51.out
      have HG6L : Hid (g5 < W6.heap.size) := Lib.hid (by rw [hW6]; exact HG5L.out)
      have HC6 : Hid (ChsAt W6 (.slice (some ⟨bb, off, none⟩) cs.length c) cs ds) := Lib.hid (by rw [hW6]; exact HC5.out.below ((Chg.refl _ _).drewN _))
      have HCH6 : Hid (Chg (fun i => w.heap.size ≤ i) w W6) := Lib.hid (by rw [hW6]; exact HCH.out.drewN _)
      obtain ⟨e1, he1⟩ : ∃ e1, chkE size cs k = e1 := ⟨_, rfl⟩
      have HCES2 : Hid (chkE size cs (k + 1) = if nd ≠ size ∨ a ∈ atsOf (cs.take k) then 10 else e1) := Lib.hid (by rw [← he1]; exact HCES.out)
      rw [he1]
      clear hW6 he1 q50 q51 HG5 HG51 HG5L HC5 HCH HCES HOUT H11 HPRE
      by_cases hlen : nd ≠ size
      · have hlen' : ((nd : Int) != (size : Int)) = true := by rw [bne_iff_ne]; omega
        obtain ⟨e0, he0⟩ : ∃ e0 : Int, e0 = 10 := ⟨_, rfl⟩
        have HES : Hid (innE cs a e0 k = chkE size cs (k + 1)) := Lib.hid (by
          rw [HCES2.out, if_pos (.inl hlen), he0]; unfold innE; split <;> rfl)
        have HE0 : Hid (Value.int .i64 10 = .int .i64 (innE cs a e0 0)) := Lib.hid (by rw [he0]; simp [innE, atsOf])
        clear hlen he0
        go_wp2_with fail
        clear q60 q61
        go_loopw [7, 38] (fun ev t wr => ∃ j : Nat, j ≤ k ∧ t = .int .i64 j ∧ ev = .int .i64 (innE cs a e0 j) ∧ Chg (fun i => W6.heap.size ≤ i) W6 wr) (fun _ t _ => k - (intOf t).toNat)
        case atStart => exact ⟨0, by omega, rfl, HE0.out, Chg.refl _ _⟩
        case round =>
          rename World => wi
          obtain ⟨j, hj, rfl, rfl, hci⟩ := hrel
          by_cases hj2 : (j : Int) < k
          · have hcc := HC6.out.below hci
            obtain ⟨bb2, off2, cc2, he2, hcells2⟩ := hcc.ch.cells (by omega)
            injection he2 with f1 f2 f3
            injection f1 with f1
            injection f1 with f4 f5
            subst f4 f5
            obtain ⟨s0, s1⟩ := hcells2 j (by omega)
            have hdd := hcc.dat j (by omega)
            obtain ⟨d2, hde2⟩ : ∃ d, ds.getD j undef = d := ⟨_, rfl⟩
            obtain ⟨c2, hce2⟩ : ∃ c, cs.getD j default = c := ⟨_, rfl⟩
            have hsu := innE_succ cs a e0 j (by omega)
            rw [hde2] at s1 hdd
            rw [hce2] at s0 hdd hsu
            obtain ⟨A3, c3, rfl, _, _⟩ := hdd.shape
            have hg5 := hci.cell HG6.out (by show ¬ W6.heap.size ≤ g5; have := HG6L.out; omega)
            have hg5' := (show Up wi (wi.alloc (.cells #[.int .i64 c2.at_, .slice A3 c2.dat.length c3] 89)) from (Chg.refl _ wi).alloc _).cell hg5 (fun h => h)
            have HCI : Hid (Chg (fun i => W6.heap.size ≤ i) W6 (wi.alloc (.cells #[.int .i64 c2.at_, .slice A3 c2.dat.length c3] 89))) := Lib.hid (hci.alloc _)
            have HSU := Lib.hid hsu
            obtain ⟨b2, hb2⟩ : ∃ b2, c2.at_ = b2 := ⟨_, rfl⟩
            rw [hb2] at s0 hg5' HCI HSU
            obtain ⟨ev, hev⟩ : ∃ ev, innE cs a e0 j = ev := ⟨_, rfl⟩
            rw [hev] at HSU
            rw [hev]
            have HEV := Lib.hid hev
            clear hcc hcells2 hdd hde2 hce2 hsu hci hg5 hb2 f2 hev
            by_cases hab : b2 = a
            · have hab' : (b2 == a) = true := by rw [beq_iff_eq]; exact hab
              have HS2 := Lib.hid (HSU.out.trans (if_pos hab))
              clear hab
              go_wp2_with fail
              exact ⟨⟨j + 1, by omega, by go_num, by rw [HS2.out], HCI.out⟩, by simp [intOf]; omega⟩
            · have hab' : (b2 == a) = false := by rw [beq_eq_false_iff_ne]; exact hab
              have HS2 := Lib.hid (HSU.out.trans (if_neg hab))
              clear hab
              go_wp2_with fail
              exact ⟨⟨j + 1, by omega, by go_num, by rw [HS2.out], HCI.out⟩, by simp [intOf]; omega⟩
          · obtain rfl : j = k := by omega
            have HCF := Lib.hid (HCH6.out.then hci (fun i hi => .inr (by have := HCH6.out.size; omega)))
            have hes : innE cs a e0 j = chkE size cs (j + 1) := HES.out
            rw [hes]
            clear hci hes
            go_wp2_with fail
            exact ⟨⟨_, _, _, _, _, _, ⟨j + 1, by omega, by go_num, rfl, HNX.out, HCF.out⟩, rfl, rfl, rfl, rfl, rfl, rfl⟩, by simp [intOf]; omega⟩

      · have hlen' : ((nd : Int) != (size : Int)) = false := by rw [bne_eq_false_iff_eq]; omega
        have HES : Hid (innE cs a e1 k = chkE size cs (k + 1)) := Lib.hid (by
          rw [HCES2.out]
          unfold innE
          by_cases h : a ∈ atsOf (cs.take k)
          · rw [if_pos h, if_pos (.inr h)]
          · rw [if_neg h, if_neg (fun h2 => h2.elim hlen h)])
        obtain ⟨e0, he0⟩ : ∃ e0 : Int, e1 = e0 := ⟨_, rfl⟩
        subst he0
        rename Int => e0
        have HE0 : Hid (Value.int .i64 e0 = .int .i64 (innE cs a e0 0)) := Lib.hid (by simp [innE, atsOf])
        clear hlen
        go_wp2_with fail
        clear q60 q61
        go_loopw [7, 38] (fun ev t wr => ∃ j : Nat, j ≤ k ∧ t = .int .i64 j ∧ ev = .int .i64 (innE cs a e0 j) ∧ Chg (fun i => W6.heap.size ≤ i) W6 wr) (fun _ t _ => k - (intOf t).toNat)
        case atStart => exact ⟨0, by omega, rfl, HE0.out, Chg.refl _ _⟩
        case round =>
          rename World => wi
          obtain ⟨j, hj, rfl, rfl, hci⟩ := hrel
          by_cases hj2 : (j : Int) < k
          · have hcc := HC6.out.below hci
            obtain ⟨bb2, off2, cc2, he2, hcells2⟩ := hcc.ch.cells (by omega)
            injection he2 with f1 f2 f3
            injection f1 with f1
            injection f1 with f4 f5
            subst f4 f5
            obtain ⟨s0, s1⟩ := hcells2 j (by omega)
            have hdd := hcc.dat j (by omega)
            obtain ⟨d2, hde2⟩ : ∃ d, ds.getD j undef = d := ⟨_, rfl⟩
            obtain ⟨c2, hce2⟩ : ∃ c, cs.getD j default = c := ⟨_, rfl⟩
            have hsu := innE_succ cs a e0 j (by omega)
            rw [hde2] at s1 hdd
            rw [hce2] at s0 hdd hsu
            obtain ⟨A3, c3, rfl, _, _⟩ := hdd.shape
            have hg5 := hci.cell HG6.out (by show ¬ W6.heap.size ≤ g5; have := HG6L.out; omega)
            have hg5' := (show Up wi (wi.alloc (.cells #[.int .i64 c2.at_, .slice A3 c2.dat.length c3] 89)) from (Chg.refl _ wi).alloc _).cell hg5 (fun h => h)
            have HCI : Hid (Chg (fun i => W6.heap.size ≤ i) W6 (wi.alloc (.cells #[.int .i64 c2.at_, .slice A3 c2.dat.length c3] 89))) := Lib.hid (hci.alloc _)
            have HSU := Lib.hid hsu
            obtain ⟨b2, hb2⟩ : ∃ b2, c2.at_ = b2 := ⟨_, rfl⟩
            rw [hb2] at s0 hg5' HCI HSU
            obtain ⟨ev, hev⟩ : ∃ ev, innE cs a e0 j = ev := ⟨_, rfl⟩
            rw [hev] at HSU
            rw [hev]
            have HEV := Lib.hid hev
            clear hcc hcells2 hdd hde2 hce2 hsu hci hg5 hb2 f2 hev
            by_cases hab : b2 = a
            · have hab' : (b2 == a) = true := by rw [beq_iff_eq]; exact hab
              have HS2 := Lib.hid (HSU.out.trans (if_pos hab))
              clear hab
              go_wp2_with fail
              exact ⟨⟨j + 1, by omega, by go_num, by rw [HS2.out], HCI.out⟩, by simp [intOf]; omega⟩
            · have hab' : (b2 == a) = false := by rw [beq_eq_false_iff_ne]; exact hab
              have HS2 := Lib.hid (HSU.out.trans (if_neg hab))
              clear hab
              go_wp2_with fail
              exact ⟨⟨j + 1, by omega, by go_num, by rw [HS2.out], HCI.out⟩, by simp [intOf]; omega⟩
          · obtain rfl : j = k := by omega
            have HCF := Lib.hid (HCH6.out.then hci (fun i hi => .inr (by have := HCH6.out.size; omega)))
            have hes : innE cs a e0 j = chkE size cs (j + 1) := HES.out
            rw [hes]
            clear hci hes
            go_wp2_with fail
            exact ⟨⟨_, _, _, _, _, _, ⟨j + 1, by omega, by go_num, rfl, HNX.out, HCF.out⟩, rfl, rfl, rfl, rfl, rfl, rfl⟩, by simp [intOf]; omega⟩

    · have hke : k = cs.length := by omega
      subst hke
      have hany : cs.any (outC home) = false := by
        rw [List.any_eq_false]
        intro c hc
        obtain ⟨j, hj, rfl⟩ := List.mem_iff_getElem.1 hc
        have := hpre j hj
        rw [List.getD_eq_getElem?_getD, List.getElem?_eq_getElem hj] at this
        simpa using this
      have HCH := Lib.hid hch
      obtain ⟨room, hroom⟩ : ∃ r, roomI n size home = r := ⟨_, rfl⟩
      rw [hroom] at HR
      have HRM := Lib.hid (HR.out wr)
      obtain ⟨e0, he0⟩ : ∃ e0, chkE size cs cs.length = e0 := ⟨_, rfl⟩
      have HFIN : Hid (chkI size home (roomI n size home) cs = if e0 = 0 ∧ room < cs.length then 31 else e0) := Lib.hid (by
        unfold chkI
        rw [hany, hroom, he0]
        rfl)
      rw [he0]
      clear hany hpre hch hroom he0 HR
      by_cases h0 : e0 = 0
      · subst h0
        by_cases hr : room < cs.length
        · go_wp2_with fail
          refine HRM.out.mono ?_
          rintro e w5 ⟨rfl, rfl⟩
          clear HRM
          go_wp2_with fail
          go_ret
          exact ⟨by rw [HFIN.out, if_pos ⟨trivial, hr⟩]; rfl, HCH.out.below (Nat.le_refl _) (fun _ h => h)⟩
        · go_wp2_with fail
          refine HRM.out.mono ?_
          rintro e w5 ⟨rfl, rfl⟩
          clear HRM
          go_wp2_with fail
          go_ret
          exact ⟨by rw [HFIN.out, if_neg (fun h => by have := h.2; omega)]; rfl, HCH.out.below (Nat.le_refl _) (fun _ h => h)⟩
      · have h0' : (e0 == 0) = false := by rw [beq_eq_false_iff_ne]; exact h0
        go_wp2_with fail
        go_ret
        exact ⟨by rw [HFIN.out, if_neg (fun h => h0 h.1)]; rfl, HCH.out.below (Nat.le_refl _) (fun _ h => h)⟩
end Go.Proofs.Ytkndnlhlglgmfaa
namespace Go.Proofs.Ytkndnlhlglgmfaa
open Go.RowKit
theorem cnt0_rep (n : Nat) : cnt0 (List.replicate n 0) = (List.replicate n (0 : Int)).length := cnt0_all.2 (by simp)
theorem parse_zero (n : Nat) (home room : Int) (size : Nat) : parseI (List.replicate n 0) home room size = ([], true) := by
  unfold parseI
  rw [if_pos (cnt0_rep n)]
theorem fresh_now (n size : Nat) (i : Int) (h0 : 0 ≤ i) (h1 : i < n) : nowI (freshI n size) i = List.replicate size 0 := by
  unfold nowI freshI
  have : i.toNat < n := by omega
  simp [List.getD_eq_getElem?_getD, this]
theorem fresh_open {n size : Nat} {home : Int} (f : Fm n size home) : openI (freshI n size) home = (freshI n size, 0) := by
  unfold openI
  rw [fresh_now n size 0 (by omega) (by have := f.n3; omega), parse_zero]
  simp
theorem fresh_form (n size : Nat) : (freshI n size).has.length = n ∧ (freshI n size).size = size := ⟨by simp [freshI], rfl⟩
theorem bytes_zero (n : Nat) : Bytes (List.replicate n 0) := rep_bytes n 0 (by omega)
theorem commit_form (x : Dk) (home : Int) (dn : Bool) (cs : List ChI) : (commitI x home dn cs).1.has.length = x.has.length ∧ (commitI x home dn cs).1.size = x.size := by
  unfold commitI
  split
  · exact ⟨rfl, rfl⟩
  · split
    · exact ⟨rfl, rfl⟩
    · split
      · exact ⟨rfl, rfl⟩
      · split
        · exact fourI_form _ _ _ _
        · rw [(fourI_form _ _ _ _).1, (fourI_form _ _ _ _).2]
          exact fourI_form _ _ _ _
theorem commit_wf {x : Dk} {k : Nat} (h : Wf x k) (home : Int) (dn : Bool) (cs : List ChI) : Wf (commitI x home dn cs).1 (k + 2 * (cs.length + 4)) := by
  unfold commitI
  split
  · exact h.mono (by omega)
  · split
    · exact h.mono (by omega)
    · split
      · exact h.mono (by omega)
      · split
        · exact (fourI_wf h _ _ _).mono (by omega)
        · exact (fourI_wf (fourI_wf h _ _ _) _ _ _).mono (by omega)
/-- One change in memory. -/
theorem one_ch (w : World) (a : Int) (A : Option Addr) (n c : Nat) (xs : List Int) (hl : xs.length = n) : ChAt (w.alloc (.cells #[.int .i64 a, .slice A n c] 89)) (.slice (some ⟨w.heap.size, 0, none⟩) 1 1) [⟨a, xs⟩] [.slice A n c] :=
  ⟨rfl, .inr ⟨⟨w.heap.size, 0, none⟩, 1, rfl, rfl, Nat.le_refl _, by simp, fun j u hu => by
    rw [addr_add, cell_of_row _ _ _ _ _ _ (heap_alloc_last w _), Nat.zero_add]
    simpa [rowC] using hu⟩⟩
set_option maxRecDepth 100000 in
set_option maxHeartbeats 4000000 in
theorem wawake_any (w : World) : Calls Try.prog 25 #[] w (TruePost w) := by
  have hfm : Fm 9 64 4 := ⟨by omega, by omega, by omega, by omega, by decide⟩
  have HNEW := Lib.hid (vnew w 9 64 ⟨by omega, by omega, by omega, by omega⟩)
  go_enter Try.func25, Try.ntmps25
  go_wp2_with fail
  refine HNEW.out.mono ?_
  rintro e w1 hp
  obtain ⟨p, b, sv, rfl, hd, hown, hb⟩ := hp
  have hop := open_any w1 p b sv (freshI 9 64) 0 hd (Wf.fresh 9 64 (by omega) (by omega)) (by omega) rfl (by simp [freshI]) (by show 32 ≤ 64; omega) (by rw [fresh_now 9 64 0 (by omega) (by omega)]; exact bytes_zero 64) 4 (by simp [freshI])
  rw [fresh_open hfm] at hop
  have HOP := Lib.hid hop
  have HB1 := Lib.hid hb
  have HOWN := Lib.hid hown
  clear hd hown hb hop HNEW
  go_wp2_with fail
  refine HOP.out.mono ?_
  rintro e w2 ⟨h1, hd, hc⟩
  rcases h1 with ⟨_, q, rfl, hw, hq⟩ | ⟨h1, _⟩
  rotate_left
  · exact absurd rfl h1
  dsimp only at hd
  have HD := Lib.hid hd
  have HW := Lib.hid hw
  have HQ : Hid (w.heap.size ≤ q) := Lib.hid (by have := HB1.out.size; omega)
  have HC2 : Hid (Chg (fun i => w.heap.size ≤ i) w w2) := Lib.hid (((up_below HB1.out).mono (fun _ _ h => h.elim)).then hc (fun i hi => .inl (HOWN.out i hi)))
  have HH := Lib.hid (whome_any w2 q p 4 false hw)
  have HR := Lib.hid (room_any w2 q p b sv (freshI 9 64) (0 + 700) 4 false hw hd (by simp [freshI]) (by show 64 ≤ 4096; omega) (by show 16 ≤ 64; omega) ⟨by omega, by omega⟩)
  rw [show roomI (freshI 9 64).has.length (freshI 9 64).size 4 = 4 by decide] at HR
  clear hd hw hq hc HOP
  go_wp2_with fail
  refine HH.out.mono ?_
  rintro e w3 ⟨rfl, rfl⟩
  rename World => w2
  clear HH
  go_wp2_with fail
  refine HR.out.mono ?_
  rintro e w3 ⟨rfl, hu3⟩
  have HU3 := Lib.hid hu3
  clear hu3 HR
  have HF := Lib.hid (full64_any w3 7)
  go_wp2_with fail
  refine HF.out.mono ?_
  rintro e w4 ⟨v, rfl, hv, hb4⟩
  obtain ⟨A, c, rfl⟩ := own_shape hv
  have HV := Lib.hid hv
  have HB4 := Lib.hid hb4
  clear hv hb4 HF
  have hu4 : Up w2 w4 := HU3.out.trans (up_below HB4.out)
  obtain ⟨W5, hW5⟩ : ∃ W5, W5 = w4.alloc (.cells #[.int .i64 2, .slice A 64 c] 89) := ⟨_, rfl⟩
  have hu5 : Up w2 W5 := by rw [hW5]; exact hu4.alloc _
  have hu45 : Up w4 W5 := by rw [hW5]; exact (Chg.refl _ w4).alloc _
  have hlt := HD.out.lt
  have hs2 := hu4.size
  have hqlt := HW.out.lt
  have hgA : ∀ g, Value.blk (.slice A 64 c) = some g → w3.heap.size ≤ g := fun g hg => own_ge HV.out g (by
    rcases HV.out.2 with ⟨_, hz⟩ | ⟨g', cap, cur, he, _⟩
    · omega
    · have e1 := (Value.slice.inj he).1
      rw [e1] at hg ⊢
      obtain rfl : g' = g := by simpa [Value.blk] using hg
      rfl)
  have hs3 := HU3.out.size
  have hcm := commit_any W5 q p b sv (freshI 9 64) (0 + 700) 4 false (HW.out.up hu5) (HD.out.up hu5) ((Wf.fresh 9 64 (by omega) (by omega)).mono (by omega)) (by omega) (by show 16 ≤ 64; omega) ⟨by omega, by omega⟩ (.slice (some ⟨w4.heap.size, 0, none⟩) 1 1) [⟨2, rep 64 7⟩] [.slice A 64 c]
    ⟨by rw [hW5]; exact one_ch w4 2 A 64 c _ (by decide), by decide, fun j hj => by
      obtain rfl : j = 0 := by simpa using hj
      exact Src.chg (slb_of HV.out) hu45 (fun _ _ _ h => h) (by decide), fun j hj => by
      obtain rfl : j = 0 := by simpa using hj
      show (rep 64 7).length ≤ 1000000
      decide, fun g hg _ hd => by
      have := hlt g hd
      simp [Value.blk] at hg
      omega, fun j g hj hg _ hd => by
      obtain rfl : j = 0 := by simpa using hj
      have := hlt g hd
      have := hgA g hg
      omega⟩
    (fun j hj => by obtain rfl : j = 0 := (by simpa using hj); show I64 2; unfold I64; omega)
    ⟨fun g hg _ e => by
      simp [Value.blk] at hg
      omega, fun j g hj hg _ e => by
      obtain rfl : j = 0 := by simpa using hj
      have := hgA g hg
      omega⟩
  obtain ⟨l1, l2, _, l4⟩ := commit_live hfm (fresh_form 9 64) (Live.fresh 9 64) [⟨2, rep 64 7⟩] (by decide)
  have l5 := l4 2 (by omega) (by omega)
  rw [show recW (fun k => (([⟨2, rep 64 7⟩] : List ChI).getD k default).dat) (fun i => nowI (freshI 9 64) (1 + i)) (atsOf [⟨2, rep 64 7⟩]) ([⟨2, rep 64 7⟩] : List ChI).length 2 = rep 64 7 from rfl] at l5
  obtain ⟨r, hr⟩ : ∃ r, commitI (freshI 9 64) 4 false [⟨2, rep 64 7⟩] = r := ⟨_, rfl⟩
  rw [hr] at hcm l1 l2 l5
  obtain ⟨y, e⟩ := r
  obtain rfl : e = 0 := l1
  have HCM := Lib.hid hcm
  have HL := Lib.hid l2
  have HL5 := Lib.hid l5
  have hform : y.has.length = 9 := by
    have := commit_form (freshI 9 64) 4 false [⟨2, rep 64 7⟩]
    rw [hr] at this
    exact this.1.trans (by simp [freshI])
  have HYF := Lib.hid hform
  have HWFY : Hid (Wf y (0 + 700 + 2 * (1 + 4))) := Lib.hid (by
    have := commit_wf ((Wf.fresh 9 64 (by omega) (by omega)).mono (show 0 ≤ 0 + 700 by omega)) 4 false [⟨2, rep 64 7⟩]
    rw [hr] at this
    exact this)
  have HC5 := Lib.hid (HC2.out.then hu5 (fun _ h => h.elim))
  clear hu4 hu5 hu45 hlt hs2 hqlt hgA hs3 hcm l2 l4 l5 hr hform HU3 HB4 HV
  go_wp2_with fail
  rw [← hW5]
  clear hW5
  refine HCM.out.mono ?_
  rintro e w6 ⟨rfl, hd6, hw6, hc6⟩
  have hrd := wread_any w6 q p b sv y (0 + 700 + 2 * (1 + 4)) 4 false hw6 hd6 HWFY.out ⟨by omega, by omega⟩ 2 (by unfold I64; omega)
  have hwr : wreadI y 4 false 2 = (rep 64 7, 0) := by
    unfold wreadI readI
    have h5 := HL5.out
    unfold nowI at h5
    rw [if_neg (by simp), if_neg (by omega), if_neg (by rw [HL.out.2]; decide), if_neg (by rw [HYF.out]; omega), h5]
  rw [hwr] at hrd
  have HRD := Lib.hid hrd
  have HC6 : Hid (Chg (fun i => w.heap.size ≤ i) w w6) := Lib.hid (HC5.out.then hc6 (fun i hi => .inl (hi.elim (HOWN.out i) (fun e => by rw [e]; exact HQ.out))))
  clear hd6 hw6 hc6 hrd hwr HCM
  go_wp2_with fail
  refine HRD.out.mono ?_
  rintro e w7 ⟨v2, rfl, hv2, hb7⟩
  rw [show (rep 64 7).length = 64 by decide] at hv2
  obtain ⟨A2, c2, rfl⟩ := own_shape hv2
  have HV2 : Hid (SlB w7.drew (.slice A2 64 c2) (rep 64 7)) := Lib.hid (slb_of (own_chg hv2 (Chg.refl (fun _ => False) w7).drew (fun _ _ h => h)))
  have HC7 : Hid (Chg (fun i => w.heap.size ≤ i) w w7.drew) := Lib.hid ((HC6.out.then (up_below hb7) (fun _ h => h.elim)).drew)
  have HSZ : Hid (w.heap.size ≤ w7.drew.heap.size) := Lib.hid HC7.out.size
  clear hv2 hb7 HRD
  go_wp2_with fail
  refine MT.region_mono Up [fun v _ => v = .int .i64 0,
      fun v _ => v = .bool true,
      fun v _ => v = .bool true,
      fun v _ => v = .slice A2 64 c2,
      fun v _ => v = .string (strOfNums (rep 64 7)),
      RwN w.heap.size (rep 64 7),
      fun v _ => v = .string (strOfNums (rep 64 7)),
      fun v _ => v = .bool true,
      fun v _ => v = .bool true] (by kernel_rfl) (by kernel_rfl) (Chg.refl _) (fun _ _ _ => Chg.trans) (by simp) ?_ ?_ ?_
  · simp only [List.forall_mem_cons]
    exact ⟨fun _ _ _ _ _ h => h, fun _ _ _ _ _ h => h, fun _ _ _ _ _ h => h, fun _ _ _ _ _ h => h, fun _ _ _ _ _ h => h, fun _ _ _ _ hu h => RwN.up h hu, fun _ _ _ _ _ h => h, fun _ _ _ _ _ h => h, fun _ _ _ _ _ h => h, by simp⟩
  · refine ⟨?_, ?_, ?_, ?_, ?_, ?_, ?_, ?_, ?_, trivial⟩
    · intro ρ w1 hw h0 hc hg hf hd
      have s5 : ρ (.tmp 5) = .int .i64 0 := h0 5 (by kernel_rfl)
      refine ⟨fun _ => ?_, fun h => by cases h⟩
      clear h0 hg hd
      exact gives_move rfl ⟨Chg.refl _ _, s5⟩
    · intro ρ w1 hw h0 hc hg hf hd
      have d0 := hd ⟨0, .data⟩ (by simp) rfl _ _ _ rfl rfl rfl
      refine ⟨fun _ => ?_, fun h => by cases h⟩
      clear h0 hg hd
      clear hf
      refine Gives.value (w' := w1) ?_ ⟨Chg.refl _ _, rfl⟩
      go_simp
    · intro ρ w1 hw h0 hc hg hf hd
      have d1 := hd ⟨1, .data⟩ (by simp) rfl _ _ _ rfl rfl rfl
      refine ⟨fun _ => ?_, fun h => by cases h⟩
      clear h0 hg hd
      exact gives_move rfl ⟨Chg.refl _ _, d1⟩
    · intro ρ w1 hw h0 hc hg hf hd
      have d2 := hd ⟨2, .guard⟩ (by simp) rfl _ _ _ rfl rfl rfl
      have s4 : ρ (.tmp 4) = .slice A2 64 c2 := h0 4 (by kernel_rfl)
      refine ⟨fun _ => ?_, fun h => by rw [wantedBy_true rfl rfl rfl d2] at h; cases h⟩
      clear d2
      clear h0 hg hd
      exact gives_move rfl ⟨Chg.refl _ _, s4⟩
    · intro ρ w1 hw h0 hc hg hf hd
      have d3 := hd ⟨3, .data⟩ (by simp) rfl _ _ _ rfl rfl rfl
      have d2 := hd ⟨2, .guard⟩ (by simp) rfl _ _ _ rfl rfl rfl
      refine ⟨fun _ => ?_, fun h => by rw [wantedBy_true rfl rfl rfl d2] at h; cases h⟩
      clear d2
      clear h0 hg hd
      exact gives_string rfl (by rw [d3]; exact Src.chg HV2.out hw (fun _ _ _ h => h) (by decide)) ⟨Chg.refl _ _, rfl⟩
    · intro ρ w1 hw h0 hc hg hf hd
      have d2 := hd ⟨2, .chain⟩ (by simp) rfl _ _ _ rfl rfl rfl
      refine ⟨fun _ => ?_, fun h => by rw [wantedBy_true rfl rfl rfl d2] at h; cases h⟩
      clear d2
      clear h0 hg hd
      exact gives_call rfl hf Try.func45 rfl (by kernel_rfl) (args := #[.int .u8 7]) (by simp [hc]) ((full64_any w1 7).mono (by
        rintro e w2 ⟨v, rfl, hdt, hb⟩
        obtain ⟨A5, c5, rfl⟩ := own_shape hdt
        exact ⟨_, rfl, up_below hb, A5, c5, rfl, own_base hdt (Nat.le_trans HSZ.out hw.size)⟩))
    · intro ρ w1 hw h0 hc hg hf hd
      have d5 := hd ⟨5, .data⟩ (by simp) rfl _ _ _ rfl rfl rfl
      have d2 := hd ⟨2, .guard⟩ (by simp) rfl _ _ _ rfl rfl rfl
      refine ⟨fun _ => ?_, fun h => by rw [wantedBy_true rfl rfl rfl d2] at h; cases h⟩
      clear d2
      clear h0 hg hd
      obtain ⟨A5, c5, e5, h5⟩ := d5
      exact gives_string rfl (by rw [e5]; exact slb_of h5) ⟨Chg.refl _ _, rfl⟩
    · intro ρ w1 hw h0 hc hg hf hd
      have d4 := hd ⟨4, .data⟩ (by simp) rfl _ _ _ rfl rfl rfl
      have d6 := hd ⟨6, .data⟩ (by simp) rfl _ _ _ rfl rfl rfl
      have d2 := hd ⟨2, .guard⟩ (by simp) rfl _ _ _ rfl rfl rfl
      refine ⟨fun _ => ?_, fun h => by rw [wantedBy_true rfl rfl rfl d2] at h; cases h⟩
      clear d2
      clear h0 hg hd
      exact gives_streq rfl d4 d6 (rep_bytes 64 7 (by omega)) (rep_bytes 64 7 (by omega)) (by rw [show (rep 64 7 == rep 64 7) = true by decide]; exact ⟨Chg.refl _ _, rfl⟩)
    · intro ρ w1 hw h0 hc hg hf hd
      have d2 := hd ⟨2, .data⟩ (by simp) rfl _ _ _ rfl rfl rfl
      have d7 := hd ⟨7, .data⟩ (by simp) rfl _ _ _ rfl rfl rfl
      refine ⟨fun _ => ?_, fun h => by cases h⟩
      clear h0 hg hd
      clear hf
      refine Gives.value (w' := w1) ?_ ⟨Chg.refl _ _, rfl⟩
      go_simp
  · intro vs w9 hw hr
    have h8 := hr 8 _ rfl
    clear hr
    dsimp only [putsL, restL]
    simp only [Act.put, List.setIfInBounds_toArray, List.set_cons_zero, List.set_cons_succ]
    simp only [Nat.zero_add, Nat.reduceAdd]
    rw [h8]
    have HCF := Lib.hid (HC7.out.then hw (fun _ h => h.elim))
    clear hw h8
    go_wp2_with fail
    go_ret
    exact ⟨rfl, HCF.out.below (Nat.le_refl _) (fun _ h => h)⟩
end Go.Proofs.Ytkndnlhlglgmfaa
