/-
  The four steps of a commit, and apply: walked. apply, walked. Commit, walked. Open, walked.
-/
import Derived.Test.YtkndnlhlglgmfaaW16
namespace Go.Proofs.Ytkndnlhlglgmfaa
open Go.RowKit
theorem wrI_form (x : Dk) (T : Nat → Int) (cs : List ChI) : ∀ k, (wrI x T cs k).1.has.length = x.has.length ∧ (wrI x T cs k).1.size = x.size
  | 0 => ⟨rfl, rfl⟩
  | k + 1 => by
    have ih := wrI_form x T cs k
    unfold wrI
    split
    · rw [(write_form _ _ _).1, (write_form _ _ _).2]; exact ih
    · exact ih
/-- A commit's steps: changes are written to places; flush; a head is written; flush. -/
def fourS (x : Dk) (T : Nat → Int) (cs : List ChI) (hd : List Int) : Nat → Dk × Int
  | 0 => (x, 0)
  | 1 => wrI x T cs cs.length
  | 2 => flushI (wrI x T cs cs.length).1
  | 3 => writeI (flushI (wrI x T cs cs.length).1).1 0 hd
  | _ => flushI (writeI (flushI (wrI x T cs cs.length).1).1 0 hd).1
theorem fourS_wf {x : Dk} {kk : Nat} (h : Wf x kk) (T : Nat → Int) (cs : List ChI) (hd : List Int) (j : Nat) (hj : j ≤ 4) : Wf (fourS x T cs hd j).1 (kk + cs.length + j) := by
  have h1 := wrI_wf h T cs cs.length
  match j, hj with
  | 0, _ => exact h.mono (by omega)
  | 1, _ => exact h1.mono (by omega)
  | 2, _ => exact h1.flush.mono (by omega)
  | 3, _ => exact (h1.flush.write 0 hd).mono (by omega)
  | 4, _ => exact (h1.flush.write 0 hd).flush.mono (by omega)
theorem fourS_form (x : Dk) (T : Nat → Int) (cs : List ChI) (hd : List Int) (j : Nat) (hj : j ≤ 4) : (fourS x T cs hd j).1.has.length = x.has.length ∧ (fourS x T cs hd j).1.size = x.size := by
  have h1 := wrI_form x T cs cs.length
  match j, hj with
  | 0, _ => exact ⟨rfl, rfl⟩
  | 1, _ => exact h1
  | 2, _ => show (flushI _).1.has.length = _ ∧ (flushI _).1.size = _; rw [(flush_form _).1, (flush_form _).2]; exact h1
  | 3, _ => show (writeI _ _ _).1.has.length = _ ∧ (writeI _ _ _).1.size = _; rw [(write_form _ _ _).1, (write_form _ _ _).2, (flush_form _).1, (flush_form _).2]; exact h1
  | 4, _ => show (flushI _).1.has.length = _ ∧ (flushI _).1.size = _; rw [(flush_form _).1, (flush_form _).2, (write_form _ _ _).1, (write_form _ _ _).2, (flush_form _).1, (flush_form _).2]; exact h1
/-- What the four steps come to: at the first error they end. -/
def fourI (x : Dk) (T : Nat → Int) (cs : List ChI) (hd : List Int) : Dk × Int :=
  if (fourS x T cs hd 1).2 ≠ 0 then fourS x T cs hd 1 else if (fourS x T cs hd 2).2 ≠ 0 then fourS x T cs hd 2 else if (fourS x T cs hd 3).2 ≠ 0 then fourS x T cs hd 3 else fourS x T cs hd 4
theorem fourI_at (x : Dk) (T : Nat → Int) (cs : List ChI) (hd : List Int) (j : Nat) (hj : j < 4) (h0 : ∀ i, i ≤ j → (fourS x T cs hd i).2 = 0) (h1 : (fourS x T cs hd (j + 1)).2 ≠ 0) : fourI x T cs hd = fourS x T cs hd (j + 1) := by
  unfold fourI
  match j, hj with
  | 0, _ => rw [if_pos h1]
  | 1, _ => rw [if_neg (by rw [h0 1 (by omega)]; simp), if_pos h1]
  | 2, _ => rw [if_neg (by rw [h0 1 (by omega)]; simp), if_neg (by rw [h0 2 (by omega)]; simp), if_pos h1]
  | 3, _ => rw [if_neg (by rw [h0 1 (by omega)]; simp), if_neg (by rw [h0 2 (by omega)]; simp), if_neg (by rw [h0 3 (by omega)]; simp)]
theorem fourI_all (x : Dk) (T : Nat → Int) (cs : List ChI) (hd : List Int) (h0 : ∀ i, i ≤ 4 → (fourS x T cs hd i).2 = 0) : fourI x T cs hd = fourS x T cs hd 4 := by
  unfold fourI
  rw [if_neg (by rw [h0 1 (by omega)]; simp), if_neg (by rw [h0 2 (by omega)]; simp), if_neg (by rw [h0 3 (by omega)]; simp)]
theorem fourI_wf {x : Dk} {kk : Nat} (h : Wf x kk) (T : Nat → Int) (cs : List ChI) (hd : List Int) : Wf (fourI x T cs hd).1 (kk + cs.length + 4) := by
  have f := fun j hj => fourS_wf h T cs hd j hj
  unfold fourI
  split
  · exact (f 1 (by omega)).mono (by omega)
  · split
    · exact (f 2 (by omega)).mono (by omega)
    · split
      · exact (f 3 (by omega)).mono (by omega)
      · exact (f 4 (by omega)).mono (by omega)
theorem fourI_form (x : Dk) (T : Nat → Int) (cs : List ChI) (hd : List Int) : (fourI x T cs hd).1.has.length = x.has.length ∧ (fourI x T cs hd).1.size = x.size := by
  have f := fun j hj => fourS_form x T cs hd j hj
  unfold fourI
  split
  · exact f 1 (by omega)
  · split
    · exact f 2 (by omega)
    · split
      · exact f 3 (by omega)
      · exact f 4 (by omega)
def wrF (g : Nat) : FnI := ⟨83, #[], #[.pointer (some ⟨g + 1, 0, none⟩), .pointer (some ⟨g, 0, none⟩), .pointer (some ⟨g + 2, 0, none⟩)]⟩
def mkF (g : Nat) : FnI := ⟨84, #[], #[.pointer (some ⟨g, 0, none⟩), .pointer (some ⟨g + 1, 0, none⟩)]⟩
def flF (p : Nat) : FnI := ⟨17, #[.pointer (some ⟨p, 0, none⟩)], #[]⟩
theorem ok83 : OkFn 83 := ⟨Try.f83, _, Try.func83, rfl, by kernel_rfl⟩
theorem ok84 : OkFn 84 := ⟨Try.f84, _, Try.func84, rfl, by kernel_rfl⟩
theorem ok17 : OkFn 17 := ⟨Try.f17, _, Try.func17, rfl, by kernel_rfl⟩
/-- What stands in memory for the four steps. -/
structure FourAt (w : World) (p b : Nat) (sv : Value) (q gs gw gm : Nat) (v fv v2 : Value) : Prop where
  row : w.heap[gs]? = some (.cells #[fnV (wrF gw), fnV (flF p), fnV (mkF gm), fnV (flF p)] 34 (0, 0))
  w0 : w.cell? ⟨gw, 0, none⟩ = some (.pointer (some ⟨q, 0, none⟩))
  w1 : w.cell? ⟨gw + 1, 0, none⟩ = some v
  w2 : w.cell? ⟨gw + 2, 0, none⟩ = some fv
  m0 : w.cell? ⟨gm, 0, none⟩ = some (.pointer (some ⟨q, 0, none⟩))
  m1 : w.cell? ⟨gm + 1, 0, none⟩ = some v2
  n0 : ¬ OwnD p b sv gs
  n1 : ¬ OwnD p b sv gw
  n2 : ¬ OwnD p b sv (gw + 1)
  n3 : ¬ OwnD p b sv (gw + 2)
  n4 : ¬ OwnD p b sv gm
  n5 : ¬ OwnD p b sv (gm + 1)
theorem FourAt.chg {w w' : World} {p b : Nat} {sv : Value} {q gs gw gm : Nat} {v fv v2 : Value} (h : FourAt w p b sv q gs gw gm v fv v2) (hc : Chg (OwnD p b sv) w w') : FourAt w' p b sv q gs gw gm v fv v2 :=
  ⟨hc.heap h.row h.n0, hc.cell h.w0 h.n1, hc.cell h.w1 h.n2, hc.cell h.w2 h.n3, hc.cell h.m0 h.n4, hc.cell h.m1 h.n5, h.n0, h.n1, h.n2, h.n3, h.n4, h.n5⟩
/-- What is behind steps that have an error, or have none. -/
def FourPost (w : World) (q p b : Nat) (sv : Value) (home : Int) (dn : Bool) (k : Nat) (r : Dk × Int) (e : Ending) (w' : World) : Prop :=
  e = .returned (.int .i64 r.2) ∧ DskV w' p b sv r.1 k ∧ WalAt w' q p home (dn || r.2 == 30) ∧ Chg (fun i => OwnD p b sv i ∨ i = q) w w'
theorem WalAt.set {w : World} {q p : Nat} {home : Int} {dn : Bool} (h : WalAt w q p home dn) (dn' : Bool) : WalAt (w.setCell ⟨q, 2, none⟩ (.bool dn')) q p home dn' := ⟨by
  rw [heap_setCell_same w q 2 _ _ _ h.obj]; rfl⟩
/-- The disk stays where the wal is turned. -/
theorem DskV.q {w w' : World} {q p b : Nat} {sv : Value} {x : Dk} {k : Nat} {home : Int} {dn : Bool} (h : DskV w p b sv x k) (hw : WalAt w q p home dn) (hc : Chg (fun i => i = q) w w') : DskV w' p b sv x k := by
  have ha := hw.apart h
  obtain ⟨m, ss, C, h1, h2⟩ := h
  exact ⟨m, ss, C, h1.chg hc (fun e => ha (.inl e.symm)) (fun e => ha (.inr (.inl e.symm))) (fun k hk e => ha (.inr (.inr (e ▸ hk)))) (fun k cur fr e hh => by subst e; rw [hw.obj] at hh; cases hh), h2⟩
set_option maxHeartbeats 1000000 in
theorem four_any (w : World) (q p b : Nat) (sv : Value) (x : Dk) (kk : Nat) (home : Int) (dn : Bool) (hw : WalAt w q p home dn) (hd : DskV w p b sv x kk) (hwf : Wf x kk) (hkk : kk ≤ 80000) (hz16 : 16 ≤ x.size) (v : Value) (cs : List ChI) (ds : List Value) (hok : ChsOk w p b sv v cs ds)
    (ft : FuncId) (bd caps : Array Value) (hfn : OkFn ft) (T : Nat → Int) (hto : ∀ k, k < cs.length → ∀ w1, Chg (OwnD p b sv) w w1 → Calls Try.prog ft (bd ++ #[.int .i64 (k : Int)] ++ caps) w1 (fun e w' => e = .returned (.int .i64 (T k)) ∧ w' = w1))
    (v2 : Value) (cs2 : List ChI) (ds2 : List Value) (hok2 : HeadOk w x v2 cs2 ds2) (hs2 : ∀ g, Value.blk v2 = some g → 0 < cs2.length → ¬ OwnD p b sv g) (gs gw gm : Nat) (hf : FourAt w p b sv q gs gw gm v (.func (.func ft) bd caps) v2) :
    Calls Try.prog 63 #[.pointer (some ⟨q, 0, none⟩), .slice (some ⟨gs, 0, none⟩) 4 4] w (FourPost w q p b sv home dn (kk + cs.length + 4) (fourI x T cs (headI (atsOf cs2) x.size))) := by
  have hn := hok.n
  have hqa := hw.apart hd
  obtain ⟨H, hH⟩ : ∃ H, headI (atsOf cs2) x.size = H := ⟨_, rfl⟩
  rw [hH]
  refine (steps_any w q p home dn (.slice (some ⟨gs, 0, none⟩) 4 4) [wrF gw, flF p, mkF gm, flF p] (by simp)
    (fun j w1 => DskV w1 p b sv (fourS x T cs H j).1 (kk + (if j = 0 then 0 else cs.length) + j) ∧ (∀ i, i ≤ j → (fourS x T cs H i).2 = 0) ∧ Chg (OwnD p b sv) w w1)
    (fun j r w1 => j < 4 ∧ r = (fourS x T cs H (j + 1)).2 ∧ (∀ i, i ≤ j → (fourS x T cs H i).2 = 0) ∧ DskV w1 p b sv (fourS x T cs H (j + 1)).1 (kk + cs.length + (j + 1)) ∧ Chg (OwnD p b sv) w w1) ?_ ?_ ?_ ?_).mono ?_
  · exact ⟨hd.le (by omega), fun i hi => by obtain rfl : i = 0 := (by omega); rfl, Chg.refl _ _⟩
  · rintro j w1 ⟨_, _, hc⟩
    have hr := (hf.chg hc).row
    exact .inr ⟨_, 4, rfl, rfl, Nat.le_refl _, by decide, fun i u hu => by
      rw [addr_add, cell_of_row _ _ _ _ _ _ hr, Nat.zero_add]
      simpa using hu⟩
  · rintro j r w1 ⟨_, _, _, _, hc⟩
    exact hw.chg hc hqa
  · rintro j hj w1 ⟨hd1, he1, hc⟩
    have hj : j < 4 := hj
    have hf1 := hf.chg hc
    have hw1 := hw.chg hc hqa
    have hok1 := hok.chg hc
    have step : ∀ (f : FnI) (y : Dk × Int), OkFn f.id → y = fourS x T cs H (j + 1) → Calls Try.prog f.id (f.bd ++ f.caps) w1 (fun e w' => e = .returned (.int .i64 y.2) ∧ DskV w' p b sv y.1 (kk + cs.length + (j + 1)) ∧ Chg (OwnD p b sv) w1 w') →
        StepF (fun j w1 => DskV w1 p b sv (fourS x T cs H j).1 (kk + (if j = 0 then 0 else cs.length) + j) ∧ (∀ i, i ≤ j → (fourS x T cs H i).2 = 0) ∧ Chg (OwnD p b sv) w w1)
          (fun j r w1 => j < 4 ∧ r = (fourS x T cs H (j + 1)).2 ∧ (∀ i, i ≤ j → (fourS x T cs H i).2 = 0) ∧ DskV w1 p b sv (fourS x T cs H (j + 1)).1 (kk + cs.length + (j + 1)) ∧ Chg (OwnD p b sv) w w1) j f w1 := by
      rintro f y ho rfl hcall
      refine ⟨ho, hcall.mono ?_⟩
      rintro e w2 ⟨rfl, hd2, hc2⟩
      refine ⟨_, rfl, ?_⟩
      by_cases h0 : (fourS x T cs H (j + 1)).2 = 0
      · exact .inl ⟨h0, hd2, fun i hi => by
          by_cases e : i = j + 1
          · rw [e]; exact h0
          · exact he1 i (by omega), hc.trans hc2⟩
      · exact .inr ⟨h0, hj, rfl, he1, hd2, hc.trans hc2⟩
    have hwfj := fourS_wf hwf T cs H j (by omega)
    match j, hj with
    | 0, _ =>
      refine step (wrF gw) _ ok83 rfl ?_
      obtain ⟨fn, cd, g1, g2, g3⟩ := hfn
      have hok0 : ChsOk w1 p b sv v cs ds := hok1
      refine (writec_any w1 (gw + 1) gw (gw + 2) q p b sv x kk home dn hw1 (hd1.le (by simp)) hwf (by omega) v cs ds hok0 hf1.w1 hf1.w0 ft bd caps hf1.w2 ⟨hf.n1, hf.n3⟩ fn cd ⟨g1, g2, g3⟩ T (fun k hk w2 hc2 => hto k hk w2 (hc.trans hc2))).mono ?_
      rintro e w2 ⟨rfl, hd2, hc2⟩
      exact ⟨rfl, hd2.le (by omega), hc2⟩
    | 1, _ =>
      refine step (flF p) _ ok17 rfl ((vflush w1 p b sv _ (kk + cs.length + 1) (hd1.le (by simp)) hwfj (by omega)).mono ?_)
      rintro e w2 ⟨rfl, hd2, hc2⟩
      exact ⟨rfl, hd2.le (by omega), hc2⟩
    | 2, _ =>
      have hsz := (fourS_form x T cs H 2 (by omega)).2
      have hm := mark_any w1 gm (gm + 1) q p b sv (fourS x T cs H 2).1 (kk + cs.length + 2) home dn hw1 (hd1.le (by simp)) hwfj (by omega) (by rw [hsz]; exact hz16) v2 cs2 ds2 ⟨hok2.ch.chg hc hs2, hok2.n, hok2.at_, hok2.one⟩ hf1.m0 hf1.m1
      rw [hsz, hH] at hm
      refine step (mkF gm) _ ok84 rfl (hm.mono ?_)
      rintro e w2 ⟨rfl, hd2, hc2⟩
      exact ⟨rfl, hd2.le (by omega), hc2⟩
    | 3, _ =>
      refine step (flF p) _ ok17 rfl ((vflush w1 p b sv _ (kk + cs.length + 3) (hd1.le (by simp)) hwfj (by omega)).mono ?_)
      rintro e w2 ⟨rfl, hd2, hc2⟩
      exact ⟨rfl, hd2.le (by omega), hc2⟩
  · have hl4 : [wrF gw, flF p, mkF gm, flF p].length = 4 := rfl
    rw [hl4]
    rintro e w1 (⟨rfl, hd1, he1, hc⟩ | ⟨j, r, w2, hr0, ⟨hj, rfl, he1, hd1, hc⟩, rfl, rfl⟩)
    · rw [fourI_all x T cs H he1]
      refine ⟨by rw [he1 4 (by omega)], hd1.le (by simp), ?_, hc.mono (fun _ _ h => .inl h)⟩
      rw [he1 4 (by omega)]
      have : (dn || (0 : Int) == 30) = dn := by cases dn <;> rfl
      rw [this]
      exact hw.chg hc hqa
    · rw [fourI_at x T cs H j hj he1 hr0]
      have hwq := hw.chg hc hqa
      have hc3 : Chg (fun i => i = q) w2 (w2.setCell ⟨q, 2, none⟩ (.bool (dn || (fourS x T cs H (j + 1)).2 == 30))) := (Chg.refl (fun i => i = q) w2).setCell ⟨q, 2, none⟩ (.inl rfl) _
      refine ⟨rfl, ?_, hwq.set _, (hc.mono (fun _ _ h => .inl h)).then (hc3.mono (fun _ _ h => (.inr h : OwnD p b sv _ ∨ _ = q))) (fun _ h => .inl h)⟩
      exact (hd1.le (by simp; omega)).q hwq hc3
end Go.Proofs.Ytkndnlhlglgmfaa
namespace Go.Proofs.Ytkndnlhlglgmfaa
open Go.RowKit
theorem info34z : (Try.prog.info? 34).map (fun i => (i.zero, i.size, i.bytes)) = some (some .nilFunc, 1, 8) := by kernel_rfl
/-- A step that writes changes, made. -/
def WrV (B q : Nat) (v fv V : Value) (W : World) : Prop := ∃ g, V = fnV (wrF g) ∧ B ≤ g ∧ W.cell? ⟨g, 0, none⟩ = some (.pointer (some ⟨q, 0, none⟩)) ∧ W.cell? ⟨g + 1, 0, none⟩ = some v ∧ W.cell? ⟨g + 2, 0, none⟩ = some fv
def MkV (B q : Nat) (v V : Value) (W : World) : Prop := ∃ g, V = fnV (mkF g) ∧ B ≤ g ∧ W.cell? ⟨g, 0, none⟩ = some (.pointer (some ⟨q, 0, none⟩)) ∧ W.cell? ⟨g + 1, 0, none⟩ = some v
def RowV (B q p : Nat) (v fv v2 V : Value) (W : World) : Prop := ∃ gs gw gm, V = .slice (some ⟨gs, 0, none⟩) 4 4 ∧ B ≤ gs ∧ W.heap[gs]? = some (.cells #[fnV (wrF gw), fnV (flF p), fnV (mkF gm), fnV (flF p)] 34 (0, 0)) ∧ WrV B q v fv (fnV (wrF gw)) W ∧ MkV B q v2 (fnV (mkF gm)) W
theorem WrV.up {B q : Nat} {v fv V : Value} {W W' : World} (h : WrV B q v fv V W) (hu : Up W W') : WrV B q v fv V W' := by
  obtain ⟨g, e, h1, h2, h3, h4⟩ := h
  exact ⟨g, e, h1, hu.cell h2 (fun h => h), hu.cell h3 (fun h => h), hu.cell h4 (fun h => h)⟩
theorem MkV.up {B q : Nat} {v V : Value} {W W' : World} (h : MkV B q v V W) (hu : Up W W') : MkV B q v V W' := by
  obtain ⟨g, e, h1, h2, h3⟩ := h
  exact ⟨g, e, h1, hu.cell h2 (fun h => h), hu.cell h3 (fun h => h)⟩
theorem RowV.up {B q p : Nat} {v fv v2 V : Value} {W W' : World} (h : RowV B q p v fv v2 V W) (hu : Up W W') : RowV B q p v fv v2 V W' := by
  obtain ⟨gs, gw, gm, e, h1, h2, h3, h4⟩ := h
  exact ⟨gs, gw, gm, e, h1, hu.heap h2 (fun h => h), h3.up hu, h4.up hu⟩
theorem RowV.four {B q p b : Nat} {sv : Value} {v fv v2 V : Value} {W : World} (h : RowV B q p v fv v2 V W) (hB : ∀ j, OwnD p b sv j → j < B) : ∃ gs gw gm, V = .slice (some ⟨gs, 0, none⟩) 4 4 ∧ FourAt W p b sv q gs gw gm v fv v2 := by
  obtain ⟨gs, gw, gm, e, h1, h2, ⟨g, e3, h3, h4, h5, h6⟩, ⟨g', e7, h7, h8, h9⟩⟩ := h
  have hg : g = gw := by
    have := congrArg (fun v => match v with | .func _ _ c => c.getD 1 .nilFunc | _ => .nilFunc) e3
    simp [fnV, wrF] at this
    omega
  have hg' : g' = gm := by
    have := congrArg (fun v => match v with | .func _ _ c => c.getD 0 .nilFunc | _ => .nilFunc) e7
    simp [fnV, mkF] at this
    omega
  subst hg hg'
  exact ⟨gs, g, g', e, h2, h4, h5, h6, h8, h9, fun h => by have := hB _ h; omega, fun h => by have := hB _ h; omega, fun h => by have := hB _ h; omega, fun h => by have := hB _ h; omega, fun h => by have := hB _ h; omega, fun h => by have := hB _ h; omega⟩
theorem gives_four {o : Oper} {ρ : Operand → Value} {w : World} {Φ : Value → World → Prop} {x0 x1 x2 x3 : Operand} {B q p : Nat} {v fv v2 : Value} (ho : o.op = .buildSlice 114 4 #[(0, x0), (1, x1), (2, x2), (3, x3)]) (hB : B ≤ w.heap.size) (h0 : WrV B q v fv (ρ x0) w) (h1 : ρ x1 = fnV (flF p)) (h2 : MkV B q v2 (ρ x2) w) (h3 : ρ x3 = fnV (flF p))
    (k : ∀ V w', Up w w' → RowV B q p v fv v2 V w' → Φ V w') : Gives Try.prog o ρ w Φ := by
  obtain ⟨gw, e0, ha⟩ := h0
  obtain ⟨gm, e2, hb⟩ := h2
  obtain ⟨i, hi, hzz⟩ := Option.map_eq_some_iff.1 info34z
  simp only [Prod.mk.injEq] at hzz
  obtain ⟨hz0, hz1, hz2⟩ := hzz
  have hrun : (Instr.buildSlice 114 4 #[(0, fnV (wrF gw)), (1, fnV (flF p)), (2, fnV (mkF gm)), (3, fnV (flF p))]).run Try.prog w = .ok (.slice (some ⟨w.heap.size, 0, none⟩) 4 4) (w.alloc (.cells #[fnV (wrF gw), fnV (flF p), fnV (mkF gm), fnV (flF p)] 34)) := by
    refine run_buildSlice w 114 34 4 _ _ i _ Try.underlying114 hi hz0 (by rw [hz1]; omega) (by rw [hz1]; omega) ?_
    rw [hz1]
    exact Great.fill_whole (s := 1) (by omega) [fnV (wrF gw), fnV (flF p), fnV (mkF gm), fnV (flF p)] ((Array.range (4 * 1)).map (Value.nilFunc.cells[· % Value.nilFunc.cells.size]!)) (by intro v hv; simp only [List.mem_cons, List.not_mem_nil, or_false] at hv; rcases hv with rfl | rfl | rfl | rfl <;> rfl) (by simp)
  have hu : Up w (w.alloc (.cells #[fnV (wrF gw), fnV (flF p), fnV (mkF gm), fnV (flF p)] 34)) := (Chg.refl _ w).alloc _
  refine Gives.value (v := .slice (some ⟨w.heap.size, 0, none⟩) 4 4) (w' := w.alloc (.cells #[fnV (wrF gw), fnV (flF p), fnV (mkF gm), fnV (flF p)] 34)) ?_ (k _ _ hu ⟨_, gw, gm, rfl, hB, heap_alloc_last _ _, WrV.up ⟨gw, rfl, ha⟩ hu, MkV.up ⟨gm, rfl, hb⟩ hu⟩)
  unfold execOp
  simp only [ho, Sem.run_bind, List.map_toArray, List.map_cons, List.map_nil, e0, h1, e2, h3, hrun, Result.andThen_ok, Sem.run_pure]
set_option maxRecDepth 100000 in
set_option maxHeartbeats 4000000 in
theorem apply_any (w : World) (q p b : Nat) (sv : Value) (x : Dk) (kk : Nat) (home : Int) (dn : Bool) (hw : WalAt w q p home dn) (hd : DskV w p b sv x kk) (hwf : Wf x kk) (hkk : kk ≤ 80000) (hz16 : 16 ≤ x.size) (v : Value) (cs : List ChI) (ds : List Value) (hok : ChsOk w p b sv v cs ds) (hat : ∀ k, k < cs.length → 0 ≤ (cs.getD k default).at_ ∧ (cs.getD k default).at_ ≤ 1000000) :
    Calls Try.prog 61 #[.pointer (some ⟨q, 0, none⟩), v] w (FourPost w q p b sv home dn (kk + cs.length + 4) (fourI x (fun k => 1 + (cs.getD k default).at_) cs (headI [] x.size))) := by
  obtain ⟨A, c, rfl, hc1, hc2⟩ := hok.ch.shape
  obtain ⟨W3, hW3⟩ : ∃ W3, W3 = w.alloc (.cells #[.slice A cs.length c] 52) := ⟨_, rfl⟩
  obtain ⟨g3, hg3⟩ : ∃ g3, g3 = w.heap.size := ⟨_, rfl⟩
  have hu3 : Up w W3 := by rw [hW3]; exact (Chg.refl _ w).alloc _
  have hg3c : W3.cell? ⟨g3, 0, none⟩ = some (.slice A cs.length c) := by rw [hW3, hg3]; exact cell_of_row _ _ 0 _ _ _ (heap_alloc_last w _)
  obtain ⟨B, hB⟩ : ∃ B, B = w.heap.size := ⟨_, rfl⟩
  have HU3 := Lib.hid hu3
  have HG3 : Hid (W3.drew.cell? ⟨g3, 0, none⟩ = some (.slice A cs.length c)) := Lib.hid hg3c
  have HQ0 : Hid (W3.drew.cell? ⟨q, 0, none⟩ = some (.pointer (some ⟨p, 0, none⟩))) := Lib.hid ((hw.up hu3).c0)
  have HBS : Hid (B ≤ W3.drew.heap.size) := Lib.hid (by rw [hB]; exact hu3.size)
  have HLT : Hid (∀ j, OwnD p b sv j → j < B) := Lib.hid (by rw [hB]; exact hd.lt)
  have HG3N : Hid (¬ OwnD p b sv g3) := Lib.hid (fun h => by have := hd.lt _ h; omega)
  have HWL : Hid (WalAt W3.drew q p home dn) := Lib.hid ((hw.up hu3).up (Chg.refl _ W3).drew)
  have HD : Hid (DskV W3.drew p b sv x kk) := Lib.hid ((hd.up hu3).up (Chg.refl _ W3).drew)
  have HOK : Hid (ChsOk W3.drew p b sv (.slice A cs.length c) cs ds) := Lib.hid ((hok.chg (hu3.mono (fun _ _ h => h.elim))).chg (Chg.refl _ W3).drew)
  have HWF := Lib.hid hwf
  have HAT := Lib.hid hat
  clear hw hd hwf hok hat hu3 hg3c hB
  go_enter Try.func61, Try.ntmps61
  go_wp2_with fail
  rw [← hW3, ← hg3]
  clear hg3
  refine MT.region_mono Up [fun v _ => v = .pointer (some ⟨q, 0, none⟩),
      fun v _ => v = .pointer (some ⟨q, 0, none⟩),
      fun v _ => v = .slice A cs.length c,
      fun v _ => v = .func (.func 82) #[] #[.pointer (some ⟨g3, 0, none⟩)],
      WrV B q (.slice A cs.length c) (.func (.func 82) #[] #[.pointer (some ⟨g3, 0, none⟩)]),
      fun v _ => v = .pointer (some ⟨q, 0, none⟩),
      fun v _ => v = .pointer (some ⟨q, 0, none⟩),
      fun v _ => v = .pointer (some ⟨q, 0, none⟩),
      fun v _ => v = .pointer (some ⟨p, 0, none⟩),
      fun v _ => v = .func (.func 17) #[.pointer (some ⟨p, 0, none⟩)] #[],
      fun v _ => v = .pointer (some ⟨q, 0, none⟩),
      MkV B q (.slice none 0 0),
      fun v _ => v = .pointer (some ⟨q, 0, none⟩),
      fun v _ => v = .pointer (some ⟨q, 0, none⟩),
      fun v _ => v = .pointer (some ⟨q, 0, none⟩),
      fun v _ => v = .pointer (some ⟨p, 0, none⟩),
      fun v _ => v = .func (.func 17) #[.pointer (some ⟨p, 0, none⟩)] #[],
      RowV B q p (.slice A cs.length c) (.func (.func 82) #[] #[.pointer (some ⟨g3, 0, none⟩)]) (.slice none 0 0)] (by kernel_rfl) (by kernel_rfl) (Chg.refl _) (fun _ _ _ => Chg.trans) (by simp) ?_ ?_ ?_
  · simp only [List.forall_mem_cons]
    exact ⟨fun _ _ _ _ _ h => h, fun _ _ _ _ _ h => h, fun _ _ _ _ _ h => h, fun _ _ _ _ _ h => h, fun _ _ _ _ hu h => WrV.up h hu, fun _ _ _ _ _ h => h, fun _ _ _ _ _ h => h, fun _ _ _ _ _ h => h, fun _ _ _ _ _ h => h, fun _ _ _ _ _ h => h, fun _ _ _ _ _ h => h, fun _ _ _ _ hu h => MkV.up h hu, fun _ _ _ _ _ h => h, fun _ _ _ _ _ h => h, fun _ _ _ _ _ h => h, fun _ _ _ _ _ h => h, fun _ _ _ _ _ h => h, fun _ _ _ _ hu h => RowV.up h hu, by simp⟩
  · refine ⟨?_, ?_, ?_, ?_, ?_, ?_, ?_, ?_, ?_, ?_, ?_, ?_, ?_, ?_, ?_, ?_, ?_, ?_, trivial⟩
    · intro ρ w1 hw h0 hc hg hf hd
      have s0 : ρ (.tmp 0) = .pointer (some ⟨q, 0, none⟩) := h0 0 (by kernel_rfl)
      refine ⟨fun _ => ?_, fun h => by cases h⟩
      clear h0 hg hd
      exact gives_move rfl ⟨Chg.refl _ _, s0⟩
    · intro ρ w1 hw h0 hc hg hf hd
      have s0 : ρ (.tmp 0) = .pointer (some ⟨q, 0, none⟩) := h0 0 (by kernel_rfl)
      refine ⟨fun _ => ?_, fun h => by cases h⟩
      clear h0 hg hd
      exact gives_move rfl ⟨Chg.refl _ _, s0⟩
    · intro ρ w1 hw h0 hc hg hf hd
      have s3 : ρ (.tmp 3) = .pointer (some ⟨g3, 0, none⟩) := h0 3 (by kernel_rfl)
      refine ⟨fun _ => ?_, fun h => by cases h⟩
      clear h0 hg hd
      clear hc hf
      have c1 := hw.cell HG3.out (fun h => h)
      refine Gives.value (w' := w1) ?_ ⟨Chg.refl _ _, rfl⟩
      go_simp
    · intro ρ w1 hw h0 hc hg hf hd
      have s3 : ρ (.tmp 3) = .pointer (some ⟨g3, 0, none⟩) := h0 3 (by kernel_rfl)
      refine ⟨fun _ => ?_, fun h => by cases h⟩
      clear h0 hg hd
      clear hf hc
      refine Gives.value (w' := w1) ?_ ⟨Chg.refl _ _, rfl⟩
      go_simp
    · intro ρ w1 hw h0 hc hg hf hd
      have d1 := hd ⟨1, .data⟩ (by simp) rfl _ _ _ rfl rfl rfl
      have d2 := hd ⟨2, .data⟩ (by simp) rfl _ _ _ rfl rfl rfl
      have d3 := hd ⟨3, .data⟩ (by simp) rfl _ _ _ rfl rfl rfl
      refine ⟨fun _ => ?_, fun h => by cases h⟩
      clear h0 hg hd
      refine gives_call rfl hf Try.func64 rfl (by kernel_rfl) (args := #[.pointer (some ⟨q, 0, none⟩), .slice A cs.length c, .func (.func 82) #[] #[.pointer (some ⟨g3, 0, none⟩)]]) (by simp [d1, d2, d3]) ((mkwrite_any w1 q A cs.length c 82 #[] #[.pointer (some ⟨g3, 0, none⟩)]).mono ?_)
      rintro e w2 ⟨rfl, rfl⟩
      obtain ⟨k0, k1, k2⟩ := writeW_cells w1 q (.slice A cs.length c) (.func (.func 82) #[] #[.pointer (some ⟨g3, 0, none⟩)])
      exact ⟨_, rfl, writeW_up _ _ _ _, w1.heap.size, rfl, Nat.le_trans HBS.out hw.size, k0, k1, k2⟩
    · intro ρ w1 hw h0 hc hg hf hd
      have s0 : ρ (.tmp 0) = .pointer (some ⟨q, 0, none⟩) := h0 0 (by kernel_rfl)
      refine ⟨fun _ => ?_, fun h => by cases h⟩
      clear h0 hg hd
      exact gives_move rfl ⟨Chg.refl _ _, s0⟩
    · intro ρ w1 hw h0 hc hg hf hd
      have d5 := hd ⟨5, .data⟩ (by simp) rfl _ _ _ rfl rfl rfl
      refine ⟨fun _ => ?_, fun h => by cases h⟩
      clear h0 hg hd
      clear hf hc
      refine Gives.value (w' := w1) ?_ ⟨Chg.refl _ _, rfl⟩
      go_simp
    · intro ρ w1 hw h0 hc hg hf hd
      have d6 := hd ⟨6, .data⟩ (by simp) rfl _ _ _ rfl rfl rfl
      refine ⟨fun _ => ?_, fun h => by cases h⟩
      clear h0 hg hd
      clear hf hc
      refine Gives.value (w' := w1) ?_ ⟨Chg.refl _ _, rfl⟩
      go_simp
    · intro ρ w1 hw h0 hc hg hf hd
      have d7 := hd ⟨7, .data⟩ (by simp) rfl _ _ _ rfl rfl rfl
      refine ⟨fun _ => ?_, fun h => by cases h⟩
      clear h0 hg hd
      clear hc hf
      have c1 := hw.cell HQ0.out (fun h => h)
      refine Gives.value (w' := w1) ?_ ⟨Chg.refl _ _, rfl⟩
      go_simp
    · intro ρ w1 hw h0 hc hg hf hd
      have d8 := hd ⟨8, .data⟩ (by simp) rfl _ _ _ rfl rfl rfl
      refine ⟨fun _ => ?_, fun h => by cases h⟩
      clear h0 hg hd
      clear hf hc
      refine Gives.value (w' := w1) ?_ ⟨Chg.refl _ _, rfl⟩
      go_simp
    · intro ρ w1 hw h0 hc hg hf hd
      have s0 : ρ (.tmp 0) = .pointer (some ⟨q, 0, none⟩) := h0 0 (by kernel_rfl)
      refine ⟨fun _ => ?_, fun h => by cases h⟩
      clear h0 hg hd
      exact gives_move rfl ⟨Chg.refl _ _, s0⟩
    · intro ρ w1 hw h0 hc hg hf hd
      have d10 := hd ⟨10, .data⟩ (by simp) rfl _ _ _ rfl rfl rfl
      refine ⟨fun _ => ?_, fun h => by cases h⟩
      clear h0 hg hd
      refine gives_call rfl hf Try.func65 rfl (by kernel_rfl) (args := #[.pointer (some ⟨q, 0, none⟩), .slice none 0 0]) (by simp [d10, hc]) ((mkmark_any w1 q none 0 0).mono ?_)
      rintro e w2 ⟨rfl, rfl⟩
      obtain ⟨k0, k1⟩ := markW_cells w1 q (.slice none 0 0)
      exact ⟨_, rfl, markW_up _ _ _, w1.heap.size, rfl, Nat.le_trans HBS.out hw.size, k0, k1⟩
    · intro ρ w1 hw h0 hc hg hf hd
      have s0 : ρ (.tmp 0) = .pointer (some ⟨q, 0, none⟩) := h0 0 (by kernel_rfl)
      refine ⟨fun _ => ?_, fun h => by cases h⟩
      clear h0 hg hd
      exact gives_move rfl ⟨Chg.refl _ _, s0⟩
    · intro ρ w1 hw h0 hc hg hf hd
      have d12 := hd ⟨12, .data⟩ (by simp) rfl _ _ _ rfl rfl rfl
      refine ⟨fun _ => ?_, fun h => by cases h⟩
      clear h0 hg hd
      clear hf hc
      refine Gives.value (w' := w1) ?_ ⟨Chg.refl _ _, rfl⟩
      go_simp
    · intro ρ w1 hw h0 hc hg hf hd
      have d13 := hd ⟨13, .data⟩ (by simp) rfl _ _ _ rfl rfl rfl
      refine ⟨fun _ => ?_, fun h => by cases h⟩
      clear h0 hg hd
      clear hf hc
      refine Gives.value (w' := w1) ?_ ⟨Chg.refl _ _, rfl⟩
      go_simp
    · intro ρ w1 hw h0 hc hg hf hd
      have d14 := hd ⟨14, .data⟩ (by simp) rfl _ _ _ rfl rfl rfl
      refine ⟨fun _ => ?_, fun h => by cases h⟩
      clear h0 hg hd
      clear hc hf
      have c1 := hw.cell HQ0.out (fun h => h)
      refine Gives.value (w' := w1) ?_ ⟨Chg.refl _ _, rfl⟩
      go_simp
    · intro ρ w1 hw h0 hc hg hf hd
      have d15 := hd ⟨15, .data⟩ (by simp) rfl _ _ _ rfl rfl rfl
      refine ⟨fun _ => ?_, fun h => by cases h⟩
      clear h0 hg hd
      clear hf hc
      refine Gives.value (w' := w1) ?_ ⟨Chg.refl _ _, rfl⟩
      go_simp
    · intro ρ w1 hw h0 hc hg hf hd
      have d4 := hd ⟨4, .data⟩ (by simp) rfl _ _ _ rfl rfl rfl
      have d9 := hd ⟨9, .data⟩ (by simp) rfl _ _ _ rfl rfl rfl
      have d11 := hd ⟨11, .data⟩ (by simp) rfl _ _ _ rfl rfl rfl
      have d16 := hd ⟨16, .data⟩ (by simp) rfl _ _ _ rfl rfl rfl
      refine ⟨fun _ => ?_, fun h => by cases h⟩
      clear h0 hg hd
      refine gives_four rfl (Nat.le_trans HBS.out hw.size) d4 d9 d11 d16 (fun V w' hu hr => ⟨hu, hr⟩)
  · intro vs w2 hw hr
    have h0 := hr 0 _ rfl
    have h17 := hr 17 _ rfl
    clear hr
    dsimp only [putsL, restL]
    simp only [Act.put, List.setIfInBounds_toArray, List.set_cons_zero, List.set_cons_succ]
    simp only [Nat.zero_add, Nat.reduceAdd]
    rw [h0]
    have HU : Hid (Up W3.drew w2) := Lib.hid hw
    obtain ⟨gs, gw, gm, e17, hf⟩ := h17.four HLT.out
    rw [e17]
    have hch0 : Chg (OwnD p b sv) W3.drew w2 := hw.mono (fun _ _ h => h.elim)
    have HR := Lib.hid (four_any w2 q p b sv x kk home dn (HWL.out.up hw) (HD.out.up hw) HWF.out hkk hz16 (.slice A cs.length c) cs ds (HOK.out.chg hch0) 82 #[] #[.pointer (some ⟨g3, 0, none⟩)] ⟨Try.f82, _, Try.func82, rfl, by kernel_rfl⟩ (fun k => 1 + (cs.getD k default).at_)
      (fun k hk w1 hc => apply1_any w1 g3 (.slice A cs.length c) cs ds ((HOK.out.chg hch0).chg hc).ch (hc.cell (hw.cell HG3.out (fun h => h)) HG3N.out) k hk (HAT.out k hk)) (.slice none 0 0) [] []
      ⟨⟨rfl, .inl ⟨rfl, rfl, rfl⟩⟩, by simp, fun j hj => by simp at hj, fun j hj => by simp at hj⟩ (fun _ _ h => by simp at h) gs gw gm hf)
    clear h0 hw e17 h17 hf hch0
    go_wp2_with fail
    refine HR.out.mono ?_
    rintro e w3 ⟨rfl, hd3, hw3, hc3⟩
    have HD3 := Lib.hid hd3
    have HW3 := Lib.hid hw3
    have HC3 : Hid (Chg (fun i => OwnD p b sv i ∨ i = q) w w3) := Lib.hid ((((HU3.out.drew).trans HU.out).mono (fun _ _ h => h.elim)).trans hc3)
    clear hd3 hw3 hc3 HR
    go_wp2_with fail
    go_ret
    exact ⟨rfl, HD3.out, HW3.out, HC3.out⟩
end Go.Proofs.Ytkndnlhlglgmfaa
namespace Go.Proofs.Ytkndnlhlglgmfaa
open Go.RowKit
/-- What a commit comes to. -/
def commitI (x : Dk) (home : Int) (dn : Bool) (cs : List ChI) : Dk × Int :=
  if cs.length = 0 then (x, 0) else if dn = true then (x, 30) else if chkI x.size home (roomI x.has.length x.size home) cs ≠ 0 then (x, chkI x.size home (roomI x.has.length x.size home) cs) else
    if (fourI x (fun k => 1 + home + (k : Int)) cs (headI (atsOf cs) x.size)).2 ≠ 0 then fourI x (fun k => 1 + home + (k : Int)) cs (headI (atsOf cs) x.size) else
      fourI (fourI x (fun k => 1 + home + (k : Int)) cs (headI (atsOf cs) x.size)).1 (fun k => 1 + (cs.getD k default).at_) cs (headI [] x.size)
theorem chkE_val (size : Nat) (cs : List ChI) : ∀ k, chkE size cs k = 0 ∨ chkE size cs k = 10
  | 0 => .inl rfl
  | k + 1 => by
    unfold chkE
    split
    · exact .inr rfl
    · exact chkE_val size cs k
theorem chkI_val (size : Nat) (home room : Int) (cs : List ChI) : chkI size home room cs = 0 ∨ chkI size home room cs = 10 ∨ chkI size home room cs = 11 ∨ chkI size home room cs = 31 := by
  unfold chkI
  split
  · omega
  · split
    · omega
    · have := chkE_val size cs cs.length; omega
theorem chkI_in {size : Nat} {home room : Int} {cs : List ChI} (h : chkI size home room cs = 0) (j : Nat) (hj : j < cs.length) : 0 ≤ (cs.getD j default).at_ ∧ (cs.getD j default).at_ < home := by
  unfold chkI at h
  split at h
  · omega
  · rename_i ha
    rw [Bool.not_eq_true, List.any_eq_false] at ha
    have := ha (cs.getD j default) (by rw [List.getD_eq_getElem?_getD, List.getElem?_eq_getElem hj]; exact List.getElem_mem hj)
    unfold outC at this
    rw [Bool.not_eq_true, Bool.or_eq_false_iff, decide_eq_false_iff_not, decide_eq_false_iff_not] at this
    omega
theorem ChsOk.chg' {S : Nat → Prop} {w w' : World} {p b : Nat} {sv v : Value} {cs : List ChI} {ds : List Value} (h : ChsOk w p b sv v cs ds) (hc : Chg S w w') (h1 : ∀ g, Value.blk v = some g → 0 < cs.length → ¬ S g) (h2 : ∀ j g, j < cs.length → Value.blk (ds.getD j undef) = some g → 0 < (cs.getD j default).dat.length → ¬ S g) : ChsOk w' p b sv v cs ds :=
  ⟨h.ch.chg hc h1, h.n, fun j hj => Src.chg (h.dat j hj) hc (fun g hg h0 => h2 j g hj hg h0) (by decide), h.len, h.s1, h.s2⟩
/-- Changes are not the wal. -/
structure ChsQ (q : Nat) (v : Value) (cs : List ChI) (ds : List Value) : Prop where
  a : ∀ g, Value.blk v = some g → 0 < cs.length → g ≠ q
  b : ∀ j g, j < cs.length → Value.blk (ds.getD j undef) = some g → 0 < (cs.getD j default).dat.length → g ≠ q
set_option maxRecDepth 100000 in
set_option maxHeartbeats 4000000 in
theorem commit_any (w : World) (q p b : Nat) (sv : Value) (x : Dk) (kk : Nat) (home : Int) (dn : Bool) (hw : WalAt w q p home dn) (hd : DskV w p b sv x kk) (hwf : Wf x kk) (hkk : kk ≤ 70000) (hz16 : 16 ≤ x.size) (hh : 0 ≤ home ∧ home ≤ 65536) (v : Value) (cs : List ChI) (ds : List Value) (hok : ChsOk w p b sv v cs ds) (hI : ∀ j, j < cs.length → I64 (cs.getD j default).at_) (hq : ChsQ q v cs ds) :
    Calls Try.prog 33 #[.pointer (some ⟨q, 0, none⟩), v] w (FourPost w q p b sv home dn (kk + 2 * (cs.length + 4)) (commitI x home dn cs)) := by
  obtain ⟨A, c, rfl, hc1, hc2⟩ := hok.ch.shape
  have hn := hok.n
  have HW0 := Lib.hid hw
  have HD0 := Lib.hid hd
  have HOK0 := Lib.hid hok
  have HI := Lib.hid hI
  have HWF := Lib.hid hwf
  have HQ := Lib.hid hq
  have HQA : Hid (¬ OwnD p b sv q) := Lib.hid (hw.apart hd)
  have c2 := hw.c2
  have hnb := hwf.num
  have hsz := hwf.size
  have HCK := Lib.hid (wcheck_any w q p b sv x kk home dn hw hd hnb hsz hz16 hh (.slice A cs.length c) cs ds hok hI)
  clear hw hd hwf hok hI hq
  unfold commitI
  by_cases hn0 : cs.length = 0
  · rw [if_pos hn0]
    have hn0' : ((cs.length : Int) == 0) = true := by simp [hn0]
    go_enter Try.func33, Try.ntmps33
    go_wp2_with fail
    go_ret
    exact ⟨rfl, HD0.out.le (by omega), by simpa using HW0.out, Chg.refl _ _⟩
  rw [if_neg hn0]
  have hn0' : ((cs.length : Int) == 0) = false := by rw [beq_eq_false_iff_ne]; omega
  cases dn with
  | true =>
    rw [if_pos rfl]
    go_enter Try.func33, Try.ntmps33
    go_wp2_with fail
    go_ret
    exact ⟨rfl, HD0.out.le (by omega), by simpa using HW0.out, Chg.refl _ _⟩
  | false =>
  rw [if_neg (by simp)]
  obtain ⟨e, he⟩ : ∃ e, chkI x.size home (roomI x.has.length x.size home) cs = e := ⟨_, rfl⟩
  have hev := chkI_val x.size home (roomI x.has.length x.size home) cs
  rw [he] at HCK hev ⊢
  by_cases he0 : e ≠ 0
  · rw [if_pos he0]
    have he0' : (e != 0) = true := by rw [bne_iff_ne]; exact he0
    have he30 : (e == 30) = false := by rw [beq_eq_false_iff_ne]; omega
    go_enter Try.func33, Try.ntmps33
    go_wp2_with fail
    refine HCK.out.mono ?_
    rintro e1 w1 ⟨rfl, hu0⟩
    have hu := up_below hu0
    clear hu0
    have HU := Lib.hid hu
    clear hu HCK
    go_wp2_with fail
    go_ret
    refine ⟨rfl, (HD0.out.up HU.out).le (by omega), ?_, HU.out.mono (fun _ _ h => h.elim)⟩
    dsimp only
    rw [he30]
    exact HW0.out.up HU.out
  obtain rfl : e = 0 := by omega
  rw [if_neg (by simp)]
  have HIN : Hid (∀ j, j < cs.length → 0 ≤ (cs.getD j default).at_ ∧ (cs.getD j default).at_ < home) := Lib.hid (fun j hj => chkI_in he j hj)
  clear he hev he0
  obtain ⟨r, hr⟩ : ∃ r, fourI x (fun k => 1 + home + (k : Int)) cs (headI (atsOf cs) x.size) = r := ⟨_, rfl⟩
  have HRF : Hid (r.1.size = x.size ∧ Wf r.1 (kk + cs.length + 4)) := Lib.hid (by rw [← hr]; exact ⟨(fourI_form _ _ _ _).2, fourI_wf HWF.out _ _ _⟩)
  have HRE := Lib.hid hr
  rw [hr]
  clear hr
  obtain ⟨R, hR⟩ : ∃ R, (if r.2 ≠ 0 then r else fourI r.1 (fun k => 1 + (cs.getD k default).at_) cs (headI [] x.size)) = R := ⟨_, rfl⟩
  have HRR := Lib.hid hR
  rw [hR]
  clear hR
  obtain ⟨y, r2⟩ := r
  dsimp only at HRF HRR
  go_enter Try.func33, Try.ntmps33
  go_wp2_with fail
  refine HCK.out.mono ?_
  rintro e1 wc ⟨rfl, hu0⟩
  have hu := up_below hu0
  clear hu0
  have HU := Lib.hid hu
  have HQ0 : Hid (wc.drew.cell? ⟨q, 0, none⟩ = some (.pointer (some ⟨p, 0, none⟩))) := Lib.hid ((HW0.out.up hu).c0)
  have HWL : Hid (WalAt wc.drew q p home false) := Lib.hid ((HW0.out.up hu).up (Chg.refl _ wc).drew)
  have HD : Hid (DskV wc.drew p b sv x kk) := Lib.hid ((HD0.out.up hu).up (Chg.refl _ wc).drew)
  have HOK : Hid (ChsOk wc.drew p b sv (.slice A cs.length c) cs ds) := Lib.hid ((HOK0.out.chg (hu.mono (fun _ _ h => h.elim))).chg (Chg.refl _ wc).drew)
  obtain ⟨B, hB⟩ : ∃ B, B = w.heap.size := ⟨_, rfl⟩
  have HBS : Hid (B ≤ wc.drew.heap.size) := Lib.hid (by rw [hB]; exact hu.size)
  have HLT : Hid (∀ j, OwnD p b sv j → j < B) := Lib.hid (by rw [hB]; exact HD0.out.lt)
  clear hu hB HCK
  go_wp2_with fail
  refine MT.region_mono Up [fun v _ => v = .pointer (some ⟨q, 0, none⟩),
      fun v _ => v = .pointer (some ⟨q, 0, none⟩),
      fun v _ => v = .slice A cs.length c,
      fun v _ => v = .pointer (some ⟨q, 0, none⟩),
      fun v _ => v = .func (.func 60) #[.pointer (some ⟨q, 0, none⟩)] #[],
      WrV B q (.slice A cs.length c) (.func (.func 60) #[.pointer (some ⟨q, 0, none⟩)] #[]),
      fun v _ => v = .pointer (some ⟨q, 0, none⟩),
      fun v _ => v = .pointer (some ⟨q, 0, none⟩),
      fun v _ => v = .pointer (some ⟨q, 0, none⟩),
      fun v _ => v = .pointer (some ⟨p, 0, none⟩),
      fun v _ => v = .func (.func 17) #[.pointer (some ⟨p, 0, none⟩)] #[],
      fun v _ => v = .pointer (some ⟨q, 0, none⟩),
      fun v _ => v = .slice A cs.length c,
      MkV B q (.slice A cs.length c),
      fun v _ => v = .pointer (some ⟨q, 0, none⟩),
      fun v _ => v = .pointer (some ⟨q, 0, none⟩),
      fun v _ => v = .pointer (some ⟨q, 0, none⟩),
      fun v _ => v = .pointer (some ⟨p, 0, none⟩),
      fun v _ => v = .func (.func 17) #[.pointer (some ⟨p, 0, none⟩)] #[],
      RowV B q p (.slice A cs.length c) (.func (.func 60) #[.pointer (some ⟨q, 0, none⟩)] #[]) (.slice A cs.length c)] (by kernel_rfl) (by kernel_rfl) (Chg.refl _) (fun _ _ _ => Chg.trans) (by simp) ?_ ?_ ?_
  · simp only [List.forall_mem_cons]
    exact ⟨fun _ _ _ _ _ h => h, fun _ _ _ _ _ h => h, fun _ _ _ _ _ h => h, fun _ _ _ _ _ h => h, fun _ _ _ _ _ h => h, fun _ _ _ _ hu h => WrV.up h hu, fun _ _ _ _ _ h => h, fun _ _ _ _ _ h => h, fun _ _ _ _ _ h => h, fun _ _ _ _ _ h => h, fun _ _ _ _ _ h => h, fun _ _ _ _ _ h => h, fun _ _ _ _ _ h => h, fun _ _ _ _ hu h => MkV.up h hu, fun _ _ _ _ _ h => h, fun _ _ _ _ _ h => h, fun _ _ _ _ _ h => h, fun _ _ _ _ _ h => h, fun _ _ _ _ _ h => h, fun _ _ _ _ hu h => RowV.up h hu, by simp⟩
  · refine ⟨?_, ?_, ?_, ?_, ?_, ?_, ?_, ?_, ?_, ?_, ?_, ?_, ?_, ?_, ?_, ?_, ?_, ?_, ?_, ?_, trivial⟩
    · intro ρ w1 hw h0 hc hg hf hd
      have s0 : ρ (.tmp 0) = .pointer (some ⟨q, 0, none⟩) := h0 0 (by kernel_rfl)
      refine ⟨fun _ => ?_, fun h => by cases h⟩
      clear h0 hg hd
      exact gives_move rfl ⟨Chg.refl _ _, s0⟩
    · intro ρ w1 hw h0 hc hg hf hd
      have s0 : ρ (.tmp 0) = .pointer (some ⟨q, 0, none⟩) := h0 0 (by kernel_rfl)
      refine ⟨fun _ => ?_, fun h => by cases h⟩
      clear h0 hg hd
      exact gives_move rfl ⟨Chg.refl _ _, s0⟩
    · intro ρ w1 hw h0 hc hg hf hd
      have s1 : ρ (.tmp 1) = .slice A cs.length c := h0 1 (by kernel_rfl)
      refine ⟨fun _ => ?_, fun h => by cases h⟩
      clear h0 hg hd
      exact gives_move rfl ⟨Chg.refl _ _, s1⟩
    · intro ρ w1 hw h0 hc hg hf hd
      have s0 : ρ (.tmp 0) = .pointer (some ⟨q, 0, none⟩) := h0 0 (by kernel_rfl)
      refine ⟨fun _ => ?_, fun h => by cases h⟩
      clear h0 hg hd
      exact gives_move rfl ⟨Chg.refl _ _, s0⟩
    · intro ρ w1 hw h0 hc hg hf hd
      have d3 := hd ⟨3, .data⟩ (by simp) rfl _ _ _ rfl rfl rfl
      refine ⟨fun _ => ?_, fun h => by cases h⟩
      clear h0 hg hd
      clear hf hc
      refine Gives.value (w' := w1) ?_ ⟨Chg.refl _ _, rfl⟩
      go_simp
    · intro ρ w1 hw h0 hc hg hf hd
      have d1 := hd ⟨1, .data⟩ (by simp) rfl _ _ _ rfl rfl rfl
      have d2 := hd ⟨2, .data⟩ (by simp) rfl _ _ _ rfl rfl rfl
      have d4 := hd ⟨4, .data⟩ (by simp) rfl _ _ _ rfl rfl rfl
      refine ⟨fun _ => ?_, fun h => by cases h⟩
      clear h0 hg hd
      refine gives_call rfl hf Try.func64 rfl (by kernel_rfl) (args := #[.pointer (some ⟨q, 0, none⟩), .slice A cs.length c, .func (.func 60) #[.pointer (some ⟨q, 0, none⟩)] #[]]) (by simp [d1, d2, d4]) ((mkwrite_any w1 q A cs.length c 60 #[.pointer (some ⟨q, 0, none⟩)] #[]).mono ?_)
      rintro e w2 ⟨rfl, rfl⟩
      obtain ⟨k0, k1, k2⟩ := writeW_cells w1 q (.slice A cs.length c) (.func (.func 60) #[.pointer (some ⟨q, 0, none⟩)] #[])
      exact ⟨_, rfl, writeW_up _ _ _ _, w1.heap.size, rfl, Nat.le_trans HBS.out hw.size, k0, k1, k2⟩
    · intro ρ w1 hw h0 hc hg hf hd
      have s0 : ρ (.tmp 0) = .pointer (some ⟨q, 0, none⟩) := h0 0 (by kernel_rfl)
      refine ⟨fun _ => ?_, fun h => by cases h⟩
      clear h0 hg hd
      exact gives_move rfl ⟨Chg.refl _ _, s0⟩
    · intro ρ w1 hw h0 hc hg hf hd
      have d6 := hd ⟨6, .data⟩ (by simp) rfl _ _ _ rfl rfl rfl
      refine ⟨fun _ => ?_, fun h => by cases h⟩
      clear h0 hg hd
      clear hf hc
      refine Gives.value (w' := w1) ?_ ⟨Chg.refl _ _, rfl⟩
      go_simp
    · intro ρ w1 hw h0 hc hg hf hd
      have d7 := hd ⟨7, .data⟩ (by simp) rfl _ _ _ rfl rfl rfl
      refine ⟨fun _ => ?_, fun h => by cases h⟩
      clear h0 hg hd
      clear hf hc
      refine Gives.value (w' := w1) ?_ ⟨Chg.refl _ _, rfl⟩
      go_simp
    · intro ρ w1 hw h0 hc hg hf hd
      have d8 := hd ⟨8, .data⟩ (by simp) rfl _ _ _ rfl rfl rfl
      refine ⟨fun _ => ?_, fun h => by cases h⟩
      clear h0 hg hd
      clear hc hf
      have c1 := hw.cell HQ0.out (fun h => h)
      refine Gives.value (w' := w1) ?_ ⟨Chg.refl _ _, rfl⟩
      go_simp
    · intro ρ w1 hw h0 hc hg hf hd
      have d9 := hd ⟨9, .data⟩ (by simp) rfl _ _ _ rfl rfl rfl
      refine ⟨fun _ => ?_, fun h => by cases h⟩
      clear h0 hg hd
      clear hf hc
      refine Gives.value (w' := w1) ?_ ⟨Chg.refl _ _, rfl⟩
      go_simp
    · intro ρ w1 hw h0 hc hg hf hd
      have s0 : ρ (.tmp 0) = .pointer (some ⟨q, 0, none⟩) := h0 0 (by kernel_rfl)
      refine ⟨fun _ => ?_, fun h => by cases h⟩
      clear h0 hg hd
      exact gives_move rfl ⟨Chg.refl _ _, s0⟩
    · intro ρ w1 hw h0 hc hg hf hd
      have s1 : ρ (.tmp 1) = .slice A cs.length c := h0 1 (by kernel_rfl)
      refine ⟨fun _ => ?_, fun h => by cases h⟩
      clear h0 hg hd
      exact gives_move rfl ⟨Chg.refl _ _, s1⟩
    · intro ρ w1 hw h0 hc hg hf hd
      have d11 := hd ⟨11, .data⟩ (by simp) rfl _ _ _ rfl rfl rfl
      have d12 := hd ⟨12, .data⟩ (by simp) rfl _ _ _ rfl rfl rfl
      refine ⟨fun _ => ?_, fun h => by cases h⟩
      clear h0 hg hd
      refine gives_call rfl hf Try.func65 rfl (by kernel_rfl) (args := #[.pointer (some ⟨q, 0, none⟩), .slice A cs.length c]) (by simp [d11, d12]) ((mkmark_any w1 q A cs.length c).mono ?_)
      rintro e w2 ⟨rfl, rfl⟩
      obtain ⟨k0, k1⟩ := markW_cells w1 q (.slice A cs.length c)
      exact ⟨_, rfl, markW_up _ _ _, w1.heap.size, rfl, Nat.le_trans HBS.out hw.size, k0, k1⟩
    · intro ρ w1 hw h0 hc hg hf hd
      have s0 : ρ (.tmp 0) = .pointer (some ⟨q, 0, none⟩) := h0 0 (by kernel_rfl)
      refine ⟨fun _ => ?_, fun h => by cases h⟩
      clear h0 hg hd
      exact gives_move rfl ⟨Chg.refl _ _, s0⟩
    · intro ρ w1 hw h0 hc hg hf hd
      have d14 := hd ⟨14, .data⟩ (by simp) rfl _ _ _ rfl rfl rfl
      refine ⟨fun _ => ?_, fun h => by cases h⟩
      clear h0 hg hd
      clear hf hc
      refine Gives.value (w' := w1) ?_ ⟨Chg.refl _ _, rfl⟩
      go_simp
    · intro ρ w1 hw h0 hc hg hf hd
      have d15 := hd ⟨15, .data⟩ (by simp) rfl _ _ _ rfl rfl rfl
      refine ⟨fun _ => ?_, fun h => by cases h⟩
      clear h0 hg hd
      clear hf hc
      refine Gives.value (w' := w1) ?_ ⟨Chg.refl _ _, rfl⟩
      go_simp
    · intro ρ w1 hw h0 hc hg hf hd
      have d16 := hd ⟨16, .data⟩ (by simp) rfl _ _ _ rfl rfl rfl
      refine ⟨fun _ => ?_, fun h => by cases h⟩
      clear h0 hg hd
      clear hc hf
      have c1 := hw.cell HQ0.out (fun h => h)
      refine Gives.value (w' := w1) ?_ ⟨Chg.refl _ _, rfl⟩
      go_simp
    · intro ρ w1 hw h0 hc hg hf hd
      have d17 := hd ⟨17, .data⟩ (by simp) rfl _ _ _ rfl rfl rfl
      refine ⟨fun _ => ?_, fun h => by cases h⟩
      clear h0 hg hd
      clear hf hc
      refine Gives.value (w' := w1) ?_ ⟨Chg.refl _ _, rfl⟩
      go_simp
    · intro ρ w1 hw h0 hc hg hf hd
      have d5 := hd ⟨5, .data⟩ (by simp) rfl _ _ _ rfl rfl rfl
      have d10 := hd ⟨10, .data⟩ (by simp) rfl _ _ _ rfl rfl rfl
      have d13 := hd ⟨13, .data⟩ (by simp) rfl _ _ _ rfl rfl rfl
      have d18 := hd ⟨18, .data⟩ (by simp) rfl _ _ _ rfl rfl rfl
      refine ⟨fun _ => ?_, fun h => by cases h⟩
      clear h0 hg hd
      refine gives_four rfl (Nat.le_trans HBS.out hw.size) d5 d10 d13 d18 (fun V w' hu hr => ⟨hu, hr⟩)
  · intro vs w2 hw hr
    have h0 := hr 0 _ rfl
    have h19 := hr 19 _ rfl
    clear hr
    dsimp only [putsL, restL]
    simp only [Act.put, List.setIfInBounds_toArray, List.set_cons_zero, List.set_cons_succ]
    simp only [Nat.zero_add, Nat.reduceAdd]
    rw [h0]
    have HU2 : Hid (Up wc.drew w2) := Lib.hid hw
    obtain ⟨gs, gw, gm, e19, hf⟩ := h19.four HLT.out
    rw [e19]
    have hch0 : Chg (OwnD p b sv) wc.drew w2 := hw.mono (fun _ _ h => h.elim)
    have hok2 := HOK.out.chg hch0
    have HR := Lib.hid (four_any w2 q p b sv x kk home false (HWL.out.up hw) (HD.out.up hw) HWF.out (by omega) hz16 (.slice A cs.length c) cs ds hok2 60 #[.pointer (some ⟨q, 0, none⟩)] #[] ⟨Try.f60, _, Try.func60, rfl, by kernel_rfl⟩ (fun k => 1 + home + (k : Int))
      (fun k hk w1 hc => journal_any w1 q p home false ((HWL.out.up hw).chg hc HQA.out) (by omega) (k : Int) (by omega)) (.slice A cs.length c) cs ds
      ⟨hok2.ch, hn, HI.out, fun j hj => by obtain ⟨A1, c1, h1, _⟩ := (hok2.dat j hj).shape; exact ⟨A1, _, c1, h1⟩⟩ hok2.s1 gs gw gm hf)
    clear h0 hw e19 h19 hf hch0 hok2
    rw [HRE.out] at HR
    go_wp2_with fail
    refine HR.out.mono ?_
    rintro e w3 ⟨rfl, hd3, hw3, hc3⟩
    dsimp only at hd3 hw3
    have HD3 := Lib.hid hd3
    have HC3 : Hid (Chg (fun i => OwnD p b sv i ∨ i = q) w w3) := Lib.hid ((((HU.out.drew).trans HU2.out).mono (fun _ _ h => h.elim)).trans hc3)
    have HW3 := Lib.hid hw3
    clear hd3 hw3 hc3 HR
    by_cases hr0 : r2 ≠ 0
    · have hRE := HRR.out
      rw [if_pos hr0] at hRE
      have hr0' : (r2 != 0) = true := by rw [bne_iff_ne]; exact hr0
      subst hRE
      go_wp2_with fail
      go_ret
      exact ⟨rfl, HD3.out.le (by omega), HW3.out, HC3.out⟩
    · obtain rfl : r2 = 0 := by omega
      have HRE2 := HRR.out
      rw [if_neg (by simp)] at HRE2
      have HRE2 := Lib.hid HRE2
      have hw30 : WalAt w3 q p home false := HW3.out
      have hok3 : ChsOk w3 p b sv (.slice A cs.length c) cs ds := HOK0.out.chg' HC3.out (fun g h1 h2 h3 => h3.elim (HOK0.out.s1 g h1 h2) (HQ.out.a g h1 h2)) (fun j g h1 h2 h3 h4 => h4.elim (HOK0.out.s2 j g h1 h2 h3) (HQ.out.b j g h1 h2 h3))
      have hap := apply_any w3 q p b sv y (kk + cs.length + 4) home false hw30 HD3.out HRF.out.2 (by omega) (by rw [HRF.out.1]; exact hz16) (.slice A cs.length c) cs ds hok3 (fun k hk => by have := HIN.out k hk; omega)
      rw [HRF.out.1] at hap
      have HAP := Lib.hid hap
      clear hap hok3 hw30
      go_wp2_with fail
      refine HAP.out.mono ?_
      rw [HRE2.out]
      rintro e w4 ⟨rfl, hd4, hw4, hc4⟩
      have HD4 := Lib.hid hd4
      have HW4 := Lib.hid hw4
      have HC4 := Lib.hid (HC3.out.trans hc4)
      clear hd4 hw4 hc4 HAP
      go_wp2_with fail
      go_ret
      exact ⟨rfl, HD4.out.le (by omega), HW4.out, HC4.out⟩
end Go.Proofs.Ytkndnlhlglgmfaa
namespace Go.Proofs.Ytkndnlhlglgmfaa
open Go.RowKit
/-- What the journal says of the sectors that a head names. -/
def jrnl (x : Dk) (home : Int) (l : List Int) : List ChI := (List.range l.length).map (fun k => ⟨l.getD k 0, nowI x (1 + home + (k : Int))⟩)
theorem jrnl_len (x : Dk) (home : Int) (l : List Int) : (jrnl x home l).length = l.length := by simp [jrnl]
theorem jrnl_at (x : Dk) (home : Int) (l : List Int) (k : Nat) (hk : k < l.length) : (jrnl x home l).getD k default = ⟨l.getD k 0, nowI x (1 + home + (k : Int))⟩ := by
  simp [jrnl, List.getD_eq_getElem?_getD, hk]
/-- What Open comes to. -/
def openI (x : Dk) (home : Int) : Dk × Int :=
  if (parseI (nowI x 0) home (roomI x.has.length x.size home) x.size).2 = false then (x, 32) else
    if (parseI (nowI x 0) home (roomI x.has.length x.size home) x.size).1 = [] then (x, 0) else
      fourI x (fun k => 1 + ((jrnl x home (parseI (nowI x 0) home (roomI x.has.length x.size home) x.size).1).getD k default).at_) (jrnl x home (parseI (nowI x 0) home (roomI x.has.length x.size home) x.size).1) (headI [] x.size)
def OpenPost (w : World) (p b : Nat) (sv : Value) (home : Int) (k : Nat) (r : Dk × Int) (e : Ending) (w' : World) : Prop :=
  ((r.2 = 0 ∧ ∃ q, e = .returned (.tuple #[.pointer (some ⟨q, 0, none⟩), .int .i64 0]) ∧ WalAt w' q p home false ∧ w.heap.size ≤ q) ∨ (r.2 ≠ 0 ∧ e = .returned (.tuple #[.pointer none, .int .i64 r.2]))) ∧ DskV w' p b sv r.1 k ∧ Chg (OwnD p b sv) w w'
theorem parse_bd (bs : List Int) (home room : Int) (size : Nat) (hh : 1 ≤ home) (hr : 0 ≤ room) : ((parseI bs home room size).1.length : Int) ≤ room ∧ ∀ a ∈ (parseI bs home room size).1, 0 ≤ a ∧ a < home := by
  unfold parseI
  split
  · exact ⟨by simpa using hr, fun a ha => by simp at ha⟩
  · dsimp only
    refine ⟨?_, parL_bd home hh _ _ _⟩
    rw [parL_len]
    have := cntI_bd (cntI bs false 1 1).2.1 (cntI bs false 1 1).2.2 0 room (by omega) hr
    omega
theorem getD_all {l : List Int} {P : Int → Prop} (h : ∀ a ∈ l, P a) (k : Nat) (hk : k < l.length) : P (l.getD k 0) := by
  rw [List.getD_eq_getElem?_getD, List.getElem?_eq_getElem hk]
  exact h _ (List.getElem_mem hk)
theorem rowC_set : ∀ (cs : List ChI) (ds : List Value) (k : Nat) (d : Value), ds.length = cs.length → (rowC cs ds).set (2 * k + 1) d = rowC cs (ds.set k d)
  | [], ds, k, d, h => by
    obtain rfl : ds = [] := List.eq_nil_of_length_eq_zero (by simpa using h)
    simp [rowC]
  | _ :: _, [], _, _, h => by simp at h
  | c :: cs, e :: ds, 0, d, _ => by simp [rowC]
  | c :: cs, e :: ds, k + 1, d, h => by
    have ih := rowC_set cs ds k d (by simpa using h)
    rw [show 2 * (k + 1) + 1 = (2 * k + 1) + 1 + 1 by omega]
    simp only [rowC, List.set_cons_succ]
    rw [ih]
theorem rowC_ats : ∀ (cs cs2 : List ChI) (ds : List Value), cs.map (·.at_) = cs2.map (·.at_) → rowC cs ds = rowC cs2 ds
  | [], [], _, _ => rfl
  | [], _ :: _, _, h => by simp at h
  | _ :: _, [], _, h => by simp at h
  | _ :: _, _ :: _, [], _ => by simp [rowC]
  | c :: cs, c2 :: cs2, d :: ds, h => by
    simp only [List.map_cons, List.cons.injEq] at h
    simp only [rowC, h.1, rowC_ats cs cs2 ds h.2]
theorem rowC_jrnl (x : Dk) (home : Int) (l : List Int) (ds : List Value) : rowC (chs l) ds = rowC (jrnl x home l) ds := by
  refine rowC_ats _ _ _ ?_
  apply List.ext_getElem
  · simp [chs, jrnl]
  · intro k h1 h2
    simp [chs, jrnl] at h1 h2 ⊢
    rw [List.getElem?_eq_getElem h1]
    rfl
/-- The changes of an open: which data has been read. -/
structure JrAt (w : World) (B : Nat) (v : Value) (x : Dk) (home : Int) (l : List Int) (ds : List Value) (k : Nat) : Prop where
  row : w.ownsRow B 89 2 v l.length (rowC (chs l) ds)
  len : ds.length = l.length
  old : ∀ j, j < k → j < l.length → w.ownsRow B 5 1 (ds.getD j undef) (nowI x (1 + home + (j : Int))).length (u8s (nowI x (1 + home + (j : Int))))
theorem JrAt.up {w w' : World} {B : Nat} {v : Value} {x : Dk} {home : Int} {l : List Int} {ds : List Value} {k : Nat} (h : JrAt w B v x home l ds k) (hu : Up w w') : JrAt w' B v x home l ds k :=
  ⟨own_chg h.row hu (fun _ _ h => h), h.len, fun j hj hl => own_chg (h.old j hj hl) hu (fun _ _ h => h)⟩
theorem JrAt.set {w : World} {B g n c : Nat} {x : Dk} {home : Int} {l : List Int} {ds : List Value} {k : Nat} (h : JrAt w B (.slice (some ⟨g, 0, none⟩) n c) x home l ds k) (hk : k < l.length) (d : Value) (hd : w.ownsRow B 5 1 d (nowI x (1 + home + (k : Int))).length (u8s (nowI x (1 + home + (k : Int))))) :
    JrAt (w.setCell ⟨g, 2 * k + 1, none⟩ d) B (.slice (some ⟨g, 0, none⟩) n c) x home l (ds.set k d) (k + 1) := by
  obtain ⟨cu, fu, hg⟩ := own_type h.row g rfl
  have hc : Chg (fun i => i = g) w (w.setCell ⟨g, 2 * k + 1, none⟩ d) := (Chg.refl (fun i => i = g) w).setCell ⟨g, 2 * k + 1, none⟩ (.inl rfl) _
  have h5 : ∀ k cur fr, k = g → w.heap[k]? ≠ some (.cells cur 5 fr) := fun k cur fr e hh => by subst e; rw [hg] at hh; cases hh
  have hn : n = l.length := by
    rcases h.row.2 with ⟨h1, _⟩ | ⟨g', cap, cur, he, _⟩
    · cases h1
    · injection he
  subst hn
  obtain ⟨hs1, _⟩ := World.ownsRow.stored h.row (2 * k + 1) d
  rw [rowC_set _ _ _ _ (by rw [h.len]; simp [chs])] at hs1
  refine ⟨hs1, by rw [List.length_set]; exact h.len, fun j hj hl => ?_⟩
  by_cases e : j = k
  · subst e
    rw [List.getD_eq_getElem?_getD, List.getElem?_set_self (by rw [h.len]; exact hk)]
    exact own_chg' hd hc h5
  · rw [List.getD_eq_getElem?_getD, List.getElem?_set_ne (fun h => e h.symm), ← List.getD_eq_getElem?_getD]
    exact own_chg' (h.old j (by omega) hl) hc h5
theorem JrAt.cell {w : World} {B g n c : Nat} {x : Dk} {home : Int} {l : List Int} {ds : List Value} {k : Nat} (h : JrAt w B (.slice (some ⟨g, 0, none⟩) n c) x home l ds k) (hk : k < l.length) : w.cell? ⟨g, 2 * k + 1, none⟩ = some (ds.getD k undef) ∧ w.frozen? ⟨g, 2 * k + 1, none⟩ = false := by
  have hn : n = l.length := by
    rcases h.row.2 with ⟨h1, _⟩ | ⟨g', cap, cur, he, _⟩
    · cases h1
    · injection he
  subst hn
  have := World.ownsRow.cells h.row rfl (2 * k + 1) _ (rowC_at (chs l) ds k (by rw [h.len]; simp [chs]) (by simpa [chs] using hk)).2
  rw [addr_add, Nat.zero_add] at this
  exact ⟨this, World.ownsRow.frozenAt h.row (2 * k + 1)⟩
theorem JrAt.chs {w : World} {B p b : Nat} {sv : Value} {v : Value} {x : Dk} {kk : Nat} {home : Int} {l : List Int} {ds : List Value} (h : JrAt w B v x home l ds l.length) (hwf : Wf x kk) (hl : l.length ≤ 1000) (hB : ∀ j, OwnD p b sv j → j < B) : ChsOk w p b sv v (jrnl x home l) ds := by
  have hrow := h.row
  rw [rowC_jrnl x home] at hrow
  have hln := jrnl_len x home l
  have hB2 : ∀ (u : Value) (g n s e : Nat) (xs : List Value), w.ownsRow B e s u n xs → Value.blk u = some g → 0 < n → ¬ OwnD p b sv g := fun u g n s e xs ho hg h0 hd => by
    have h1 := own_ge ho g (by
      rcases ho.2 with ⟨_, hz⟩ | ⟨g', cap, cur, rfl, _, _, _, _, _⟩
      · omega
      · obtain rfl : g' = g := by simpa [Value.blk] using hg
        simp [Value.ownBlock])
    have := hB g hd; omega
  refine ⟨⟨by rw [hln]; exact h.len, ?_⟩, by rw [hln]; exact hl, fun j hj => ?_, fun j hj => ?_, fun g hg h0 => ?_, fun j g hj hg h0 => ?_⟩
  · rw [hln]
    rcases hrow.2 with ⟨hv, h0⟩ | ⟨g, cap, cur, rfl, _, hg, h1, h2, _⟩
    · exact .inl ⟨hv, h0, by
        have : rowC (jrnl x home l) ds = [] := List.eq_nil_of_length_eq_zero (by rw [rowC_len _ _ (by rw [hln]; exact h.len), hln, h0])
        exact this⟩
    · exact .inr ⟨⟨g, 0, none⟩, cap, rfl, hrow.1, h1, by simpa [maxLen] using h2, fun j u hu => World.ownsRow.cells hrow rfl j u hu⟩
  · rw [hln] at hj
    rw [jrnl_at x home l j hj]
    exact slb_of (h.old j hj hj)
  · rw [hln] at hj
    rw [jrnl_at x home l j hj]
    refine hwf.fit _ ?_
    show (∃ _, (x.ca _).getD _ = _) ∨ _
    unfold nowI
    cases hc : x.ca (1 + home + (j : Int)) with
    | none => exact .inl ⟨_, rfl⟩
    | some ys => exact .inr ⟨_, hc⟩
  · rw [hln] at h0
    exact hB2 v g _ _ _ _ hrow hg h0
  · rw [hln] at hj
    rw [jrnl_at x home l j hj] at h0
    exact hB2 _ g _ _ _ _ (h.old j hj hj) hg h0
set_option maxRecDepth 100000 in
set_option maxHeartbeats 4000000 in
theorem open_any (w : World) (p b : Nat) (sv : Value) (x : Dk) (kk : Nat) (hd : DskV w p b sv x kk) (hwf : Wf x kk) (hkk : kk ≤ 70000) (hdn : x.down = false) (hn3 : 3 ≤ x.has.length) (hz32 : 32 ≤ x.size) (hby : Bytes (nowI x 0)) (home : Int) (hhome : (x.has.length : Int) / 2 = home) :
    Calls Try.prog 26 #[.pointer (some ⟨p, 0, none⟩)] w (OpenPost w p b sv home (kk + 700) (openI x home)) := by
  have hnb := hwf.num
  have hsz := hwf.size
  have h1 : ¬ ((x.has.length : Int) < 3) := by omega
  have h2 : ¬ ((x.size : Int) < 32) := by omega
  have hdv : (x.has.length : Int).tdiv 2 = home := by rw [Int.tdiv_eq_ediv_of_nonneg (by omega)]; exact hhome
  have hwr : IntKind.i64.wrap home = home := wrap_in (by omega) (by omega)
  have hrm : 0 ≤ roomI x.has.length x.size home ∧ roomI x.has.length x.size home ≤ 600 ∧ roomI x.has.length x.size home ≤ (x.has.length : Int) - 1 - home := by unfold roomI; omega
  have hhb : 1 ≤ home ∧ home ≤ 65536 := by omega
  have hbl : (nowI x 0).length ≤ 4096 := by
    unfold nowI
    cases hc : x.ca 0 with
    | none => have := hwf.has 0 (by omega); show (x.has.getD _ []).length ≤ _; rw [show (0 : Int).toNat = 0 from rfl]; omega
    | some ys => have := hwf.ca 0 ys hc; show ys.length ≤ _; omega
  obtain ⟨bs, hbs⟩ : ∃ bs, nowI x 0 = bs := ⟨_, rfl⟩
  have hread0 : readI x 0 = (bs, 0) := by unfold readI; rw [if_neg (by rw [hdn]; decide), if_neg (by omega), ← hbs]; rfl
  unfold openI
  rw [hbs] at hbl hby ⊢
  obtain ⟨r, hr⟩ : ∃ r, parseI bs home (roomI x.has.length x.size home) x.size = r := ⟨_, rfl⟩
  have hpb := parse_bd bs home (roomI x.has.length x.size home) x.size hhb.1 hrm.1
  rw [hr] at hpb ⊢
  have HRJ : Hid (∀ k : Nat, k < r.1.length → readI x (1 + home + (k : Int)) = (nowI x (1 + home + (k : Int)), 0)) := Lib.hid (fun k hk => by
    unfold readI nowI
    rw [if_neg (by rw [hdn]; decide), if_neg (by omega)])
  obtain ⟨W0, hW0⟩ : ∃ W0, W0 = w.alloc (.cells #[.pointer (some ⟨p, 0, none⟩), .int .i64 home, .bool false] 91) := ⟨_, rfl⟩
  obtain ⟨q, hq⟩ : ∃ q, q = w.heap.size := ⟨_, rfl⟩
  have hu0 : Up w W0 := by rw [hW0]; exact (Chg.refl _ w).alloc _
  have HWL : Hid (WalAt W0 q p home false) := Lib.hid ⟨by rw [hW0, hq]; exact heap_alloc_last w _⟩
  have HU0 := Lib.hid hu0
  have HW0S : Hid (W0.heap.size = q + 1) := Lib.hid (by rw [hW0, hq]; simp)
  have HD := Lib.hid hd
  have HWF := Lib.hid hwf
  have HBY := Lib.hid hby
  have HLT : Hid (∀ j, OwnD p b sv j → j < q) := Lib.hid (by rw [hq]; exact hd.lt)
  have HR := Lib.hid hr
  have HR0 := Lib.hid hread0
  have HIN := Lib.hid hpb.2
  have hpl := hpb.1
  have HS1 := Lib.hid (vsectors w p b sv x kk hd)
  have HS2 := Lib.hid (vsize w p b sv x kk hd)
  have HS3 : Hid (Calls Try.prog 18 #[.pointer (some ⟨p, 0, none⟩), .int .i64 0] W0 (fun e w' => ∃ v, e = .returned (.tuple #[v, .int .i64 0]) ∧ w'.ownsRow W0.heap.size 5 1 v bs.length (u8s bs) ∧ Below W0.heap.size W0 w')) := Lib.hid (by
    have := vread W0 p b sv x kk (hd.up hu0) hwf 0 (by unfold I64; omega)
    rw [hread0] at this
    exact this)
  clear hd hwf hby hr hread0 hpb hu0 hbs hhome hdn
  obtain ⟨R, hR⟩ : ∃ R, (if r.2 = false then (x, 32) else if r.1 = [] then (x, 0) else fourI x (fun k => 1 + ((jrnl x home r.1).getD k default).at_) (jrnl x home r.1) (headI [] x.size)) = R := ⟨_, rfl⟩
  have HRR := Lib.hid hR
  rw [hR]
  clear hR
  go_enter Try.func26, Try.ntmps26
  go_wp2_with fail
  refine HS1.out.mono ?_
  rintro e w1 ⟨rfl, rfl⟩
  rename World => w
  go_wp2_with fail
  refine HS2.out.mono ?_
  rintro e w1 ⟨rfl, rfl⟩
  rename World => w
  go_wp2_with fail
  refine HS1.out.mono ?_
  rintro e w1 ⟨rfl, rfl⟩
  rename World => w
  clear HS1 HS2
  go_wp2_with fail
  rw [← hW0, ← hq]
  clear hW0
  have HQS : Hid (q = w.heap.size) := Lib.hid hq
  clear hq
  refine HS3.out.mono ?_
  rintro e w1 ⟨v, rfl, hv, hb1⟩
  have hc1 := up_below hb1
  obtain ⟨A, c, rfl⟩ := own_shape hv
  have HPA := Lib.hid (parse_any w1 q p b sv x kk home false (HWL.out.up hc1) (HD.out.up (HU0.out.trans hc1)) hnb hsz (by omega) hhb ⟨hrm.1, hrm.2.1⟩ _ bs (slb_of hv) HBY.out (by omega))
  have HC1 := Lib.hid hc1
  clear hv hb1 hc1 HS3
  go_wp2_with fail
  refine HPA.out.mono ?_
  rw [HR.out]
  rintro e w2 ⟨v, rfl, hv, hb2⟩
  have hc2 := HC1.out.trans (up_below hb2)
  obtain ⟨A2, c2, rfl⟩ := own_shape hv
  have HC2 := Lib.hid hc2
  have HV := Lib.hid hv
  have HSZ1 : Hid (q + 1 ≤ w1.heap.size) := Lib.hid (by have := HC1.out.size; have := HW0S.out; omega)
  clear hv hb2 hc2 HPA
  obtain ⟨l, ok⟩ := r
  dsimp only at hpl HRJ HV HIN HRR
  cases ok with
  | false =>
    have hR := HRR.out
    rw [if_pos rfl] at hR
    subst hR
    go_wp2_with fail
    go_ret2
    exact ⟨.inr ⟨by simp, rfl⟩, (HD.out.up (HU0.out.trans HC2.out)).le (by omega), (HU0.out.trans HC2.out).mono (fun _ _ h => h.elim)⟩
  | true =>
  have HJ0 : Hid (JrAt w2 (q + 1) (.slice A2 l.length c2) x home l (nils l.length) 0) := Lib.hid ⟨own_base HV.out HSZ1.out, by simp [nils], fun j hj => by omega⟩
  go_wp2_with fail
  go_loopw [6, 42] (fun e i wr => ∃ (k : Nat) (ds : List Value), k ≤ l.length ∧ e = .int .i64 0 ∧ i = .int .i64 k ∧ JrAt wr (q + 1) (.slice A2 l.length c2) x home l ds k ∧ Chg (fun i => q < i) w2 wr) (fun _ i _ => l.length - (intOf i).toNat)
  case atStart => exact ⟨0, nils l.length, by omega, rfl, rfl, HJ0.out, Chg.refl _ _⟩
  case round =>
    rename World => wr
    obtain ⟨k, ds, hk, rfl, rfl, hj, hch⟩ := hrel
    have HWLR : Hid (WalAt wr q p home false) := Lib.hid ((HWL.out.up HC2.out).chg hch (by simp))
    have HUR : Hid (Up w wr) := Lib.hid ((HU0.out.trans HC2.out).then hch (fun i hi => .inr (by have := HQS.out; omega)))
    by_cases hk2 : (k : Int) < l.length
    · obtain ⟨g, hg⟩ : ∃ g, A2 = some ⟨g, 0, none⟩ := by
        rcases hj.row.2 with ⟨_, hz⟩ | ⟨g', cap, cur, he, _⟩
        · omega
        · injection he with e1; exact ⟨g', e1⟩
      subst hg
      have hgq := own_ge hj.row g rfl
      have HJL := Lib.hid (journal_any wr q p home false HWLR.out ⟨by omega, by omega⟩ (k : Int) ⟨by omega, by omega⟩)
      have hrd := vread wr p b sv x kk (HD.out.up HUR.out) HWF.out (1 + home + (k : Int)) (by unfold I64; omega)
      rw [HRJ.out k (by omega)] at hrd
      dsimp only at hrd
      obtain ⟨ys, hys⟩ : ∃ ys, nowI x (1 + home + (k : Int)) = ys := ⟨_, rfl⟩
      rw [hys] at hrd
      have HYS := Lib.hid hys
      have HRD := Lib.hid hrd
      have HJ := Lib.hid hj
      have HCH := Lib.hid hch
      clear hys hrd hj hch
      go_wp2_with fail
      refine HJL.out.mono ?_
      rintro e w3 ⟨rfl, rfl⟩
      rename World => wr
      clear HJL
      go_wp2_with fail
      refine HRD.out.mono ?_
      rintro e w3 ⟨v3, rfl, hv3, hb3⟩
      obtain ⟨A3, c3, rfl⟩ := own_shape hv3
      have hu3 := up_below hb3
      have hj3 := HJ.out.up hu3
      obtain ⟨k1, k2⟩ := hj3.cell (by omega)
      rw [show 2 * k + 1 = k * 2 + 1 by omega] at k1 k2
      have hset := hj3.set (by omega) (.slice A3 ys.length c3) (by rw [HYS.out]; exact own_base hv3 (by have := (HWLR.out).lt; omega))
      rw [show 2 * k + 1 = k * 2 + 1 by omega] at hset
      have HSET := Lib.hid hset
      have HCH3 : Hid (Chg (fun i => q < i) w2 (w3.setCell ⟨g, k * 2 + 1, none⟩ (.slice A3 ys.length c3))) := Lib.hid ((HCH.out.trans (hu3.mono (fun _ _ h => h.elim))).setCell ⟨g, k * 2 + 1, none⟩ (.inl (by show q < g; omega)) _)
      clear hv3 hb3 hu3 hj3 hset HRD HJ HCH
      go_wp2_with fail
      exact ⟨⟨k + 1, _, by omega, rfl, by go_num, HSET.out, HCH3.out⟩, by simp [intOf]; omega⟩
    · obtain rfl : k = l.length := by omega
      have HJ := Lib.hid hj
      have HCH := Lib.hid hch
      clear hj hch
      by_cases hl0 : l = []
      · have HL0 := Lib.hid hl0
        have hlz : l.length = 0 := by rw [hl0]; rfl
        have hgt : ¬ (0 : Int) < (l.length : Int) := by omega
        clear hl0
        go_wp2_with fail
        go_ret2
        rw [← HRR.out, if_neg (by simp), if_pos HL0.out]
        exact ⟨.inl ⟨rfl, q, rfl, HWLR.out, by rw [HQS.out]; exact Nat.le_refl _⟩, (HD.out.up HUR.out).le (by omega), HUR.out.mono (fun _ _ h => h.elim)⟩
      · have hgt : (0 : Int) < (l.length : Int) := by have := List.length_pos_iff.2 hl0; omega
        have hR := HRR.out
        rw [if_neg (by simp), if_neg hl0] at hR
        have hok := HJ.out.chs (p := p) (b := b) (sv := sv) HWF.out (by omega) (fun j hj => by have := HLT.out j hj; omega)
        have hln := jrnl_len x home l
        have hap := apply_any wr q p b sv x kk home false HWLR.out (HD.out.up HUR.out) HWF.out (by omega) (by omega) (.slice A2 l.length c2) (jrnl x home l) ds hok (fun k hk => by
          rw [hln] at hk
          rw [jrnl_at x home l k hk]
          have := getD_all HIN.out k hk
          show 0 ≤ l.getD k 0 ∧ l.getD k 0 ≤ _
          omega)
        rw [hR, hln] at hap
        have HAP := Lib.hid hap
        clear hap hok hl0 hR hln HRR
        obtain ⟨y, r2⟩ := R
        go_wp2_with fail
        refine HAP.out.mono ?_
        rintro e w4 ⟨rfl, hd4, hw4, hc4⟩
        dsimp only at hd4 hw4 hc4
        have HD4 := Lib.hid hd4
        have HW4 := Lib.hid hw4
        have HC4 : Hid (Chg (OwnD p b sv) w w4) := Lib.hid ((HUR.out.mono (fun _ _ h => h.elim) : Chg (OwnD p b sv) w wr).then hc4 (fun i hi => hi.elim .inl (fun e => .inr (by have := HQS.out; omega))))
        clear hd4 hw4 hc4 HAP
        by_cases hr0 : r2 ≠ 0
        · have hr0' : (r2 != 0) = true := by rw [bne_iff_ne]; exact hr0
          go_wp2_with fail
          go_ret2
          exact ⟨.inr ⟨hr0, rfl⟩, HD4.out.le (by omega), HC4.out⟩
        · obtain rfl : r2 = 0 := by omega
          go_wp2_with fail
          go_ret2
          exact ⟨.inl ⟨rfl, q, rfl, HW4.out, by rw [HQS.out]; exact Nat.le_refl _⟩, HD4.out.le (by omega), HC4.out⟩
end Go.Proofs.Ytkndnlhlglgmfaa
