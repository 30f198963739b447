/-
  A disk that is tampered with; a string's bytes; rows of bytes that came in.
-/
import Derived.Test.YtkndnlhlglgmfaaW33
import Derived.Lib.ConvBytes
import Derived.Laws.AppendOwn
namespace Go.Proofs.Ytkndnlhlglgmfaa
open Go.RowKit Go.ChangeShapes Go.WideShapes Go.ChangeAt Go.Deep
theorem conv_bytes (w : World) (xs : List Int) (hb : Bytes xs) (hl : xs.length ≤ 100000) : ∃ A c w', (convert 9 28 (.string (strOfNums xs))).run Try.prog w = .ok (.slice A xs.length c) w' ∧ SlB w' (.slice A xs.length c) xs ∧ Up w w' := by
  have hrun := Go.Lib.run_convert_string_bytes (P := Try.prog) w 9 28 5 (strOfNums xs) Try.underlying9 Try.underlying28 Try.underlying5
  have hsz : (strOfNums xs).size = xs.length := strOfNums_size xs
  rw [hsz] at hrun
  refine ⟨_, _, _, hrun, .inr ⟨⟨w.heap.size, 0, none⟩, _, rfl, by simp [u8s], grownCap_ge _ _ _ _, ?_, fun j u hu => ?_⟩, ?_⟩
  · have := grownCap_le_maxLen w xs.length 0 5 (by unfold maxLen; omega)
    simpa [maxLen] using this
  · have hj : j < xs.length := by have := (List.getElem?_eq_some_iff.1 hu).1; rwa [u8s_len] at this
    rw [u8s_at hj] at hu
    cases hu
    rw [addr_add, Nat.zero_add, Go.Lib.bytesWorld_cell w 5 (strOfNums xs) j (by rw [hsz]; exact hj), strOfNums_data]
    have := hb j
    rw [List.getD_eq_getElem?_getD, List.getElem?_map, List.getElem?_eq_getElem hj]
    rw [List.getD_eq_getElem?_getD, List.getElem?_eq_getElem hj] at this ⊢
    simp only [Option.map_some, Option.getD_some] at this ⊢
    have h2 : (UInt8.ofNat xs[j].toNat).toNat = xs[j].toNat := by
      rw [UInt8.toNat_ofNat']
      omega
    have h3 : ((UInt8.ofNat xs[j].toNat).toNat : Int) = xs[j] := by rw [h2]; omega
    rw [h3]
  · exact ⟨rfl, rfl, rfl, by rw [Go.Lib.bytesWorld_size]; omega, fun i hi _ => Go.Lib.bytesWorld_at_old w 5 _ i hi⟩
/-- Rows of bytes that came in. -/
structure RowsAt (w : World) (v : Value) (js : List (List Int)) (ds : List Value) : Prop where
  len : ds.length = js.length
  src : Src w v 1 js.length ds
  dat : ∀ j, j < js.length → SlB w (ds.getD j undef) (js.getD j [])
theorem RowsAt.below {w w' : World} {v : Value} {js : List (List Int)} {ds : List Value} (h : RowsAt w v js ds) (hc : Chg (fun i => w.heap.size ≤ i) w w') : RowsAt w' v js ds :=
  ⟨h.len, src_below h.src (by decide) hc, fun j hj => src_below (h.dat j hj) (by decide) hc⟩
theorem RowsAt.shape {w : World} {v : Value} {js : List (List Int)} {ds : List Value} (h : RowsAt w v js ds) : ∃ A c, v = .slice A js.length c ∧ js.length ≤ c ∧ c ≤ 9223372036854775807 := by
  rcases h.src with ⟨rfl, h, _⟩ | ⟨a, c, rfl, _, h1, h2, _⟩
  · rw [h]; exact ⟨none, 0, rfl, Nat.le_refl _, by omega⟩
  · exact ⟨_, c, rfl, h1, h2⟩
section
variable {H : Type} {enc : TypeId × Value → H} {W : World}
set_option maxRecDepth 100000
theorem open_t74 {base : Nat} {v : Value} {d : DataW H} {p : List MemPlace} (hv : Value.okWide Try.prog W .any base 74 v) (h : DataW.Trod enc Try.prog W 0 (fun _ => true) true 74 v d p) : ∃ js ds, RowsAt W v js ds ∧ ∀ j, j < js.length → Bytes (js.getD j []) := by
  obtain ⟨a0, len, cap, rfl⟩ := okWide_slice Try.underlying74 hv
  obtain ⟨fuel, hf⟩ := h
  rcases open_slice Try.underlying74 hf with ⟨hcs, hx⟩ | ⟨a, len', cap', m, n, D, Pl, hcs, _, hl, hm, hmm, _, hx⟩
  · simp [Value.cells] at hcs
    obtain ⟨rfl, rfl, rfl⟩ := hcs
    exact ⟨[], [], ⟨rfl, .inl ⟨rfl, rfl, rfl⟩, fun j hj => by simp at hj⟩, fun j hj => by simp at hj⟩
  · simp [Value.cells] at hcs
    obtain ⟨rfl, rfl, rfl⟩ := hcs
    simp at hmm
    have each : ∀ i, i < len → ∃ y : List Int × Value, W.cell? (a.add i) = some y.2 ∧ SlB W y.2 y.1 ∧ Bytes y.1 := fun i hi => by
      obtain ⟨cs', h1, h2⟩ := hx i (by omega)
      obtain ⟨u, xs, rfl, hy, hok⟩ := trod_bytes h2
      refine ⟨(xs, u), ?_, hy, hok⟩
      rw [cells28] at h1
      have := (World.cells?_some h1).2.2 0 (by omega)
      rw [add_add, show i * 1 + 0 = i by omega] at this
      simpa using this
    obtain ⟨Y, hY⟩ := choose_lt each
    let js := (List.range len).map fun i => (Y i).1
    let ds := (List.range len).map fun i => (Y i).2
    have hlo : js.length = len := by simp [js]
    have hld : ds.length = len := by simp [ds]
    have ho : ∀ j, j < len → js.getD j [] = (Y j).1 := fun j hj => by simp [js, List.getD_eq_getElem?_getD, hj]
    have hd : ∀ j, j < len → ds[j]? = some (Y j).2 := fun j hj => by simp [ds, hj]
    refine ⟨js, ds, ⟨by rw [hlo, hld], .inr ⟨a, cap, by rw [hlo], by rw [hld, hlo]; omega, by rw [hlo]; exact hl, by simpa [maxLen] using hm, fun j u hu => ?_⟩, fun j hj => ?_⟩, fun j hj => ?_⟩
    · have hj : j < len := by have := (List.getElem?_eq_some_iff.1 hu).1; omega
      rw [hd j hj] at hu
      cases hu
      exact (hY j hj).1
    · rw [ho j (by omega), List.getD_eq_getElem?_getD, hd j (by omega)]; exact (hY j (by omega)).2.1
    · rw [ho j (by omega)]; exact (hY j (by omega)).2.2
end
/-- A disk of nine sectors, nothing cached, whose sectors are these. -/
structure TD (x : Dk) (F : Nat → List Int) : Prop where
  form : x.has.length = 9 ∧ x.size = 64
  wf : Wf x 0
  live : Live x
  ca : x.ca = fun _ => none
  has : ∀ j, j < 9 → x.has.getD j [] = F j
theorem fresh_has (n z j : Nat) (h : j < n) : (freshI n z).has.getD j [] = List.replicate z 0 := by simp [freshI, List.getD_eq_getElem?_getD, h]
theorem TD.fresh : TD (freshI 9 64) (fun _ => List.replicate 64 0) := ⟨fresh_form 9 64, Wf.fresh 9 64 (by omega) (by omega), Live.fresh 9 64, rfl, fun j hj => fresh_has 9 64 j hj⟩
theorem TD.now {x : Dk} {F : Nat → List Int} (h : TD x F) (j : Nat) (hj : j < 9) : nowI x (j : Int) = F j := by
  unfold nowI
  rw [h.ca]
  exact h.has j hj
theorem tamper_err {x : Dk} {F : Nat → List Int} (h : TD x F) (i : Nat) (hi : i < 9) (xs : List Int) : (tamperI x i xs).2 = if xs.length = 64 then 0 else 10 := by
  unfold tamperI checkI
  rw [if_neg (show ¬ ((i : Int) < 0 ∨ (x.has.length : Int) ≤ i) by rw [h.form.1]; omega), h.form.2]
  by_cases e : xs.length = 64
  · simp [e]
  · simp [e]
theorem TD.tamper {x : Dk} {F : Nat → List Int} (h : TD x F) (i : Nat) (hi : i < 9) (xs : List Int) (hx : xs.length = 64) : (tamperI x i xs).2 = 0 ∧ TD (tamperI x i xs).1 (fun j => if j = i then xs else F j) := by
  have he := tamper_err h i hi xs
  rw [if_pos hx] at he
  have hc : checkI x i xs.length = 0 := by
    unfold checkI
    rw [if_neg (show ¬ ((i : Int) < 0 ∨ (x.has.length : Int) ≤ i) by rw [h.form.1]; omega), if_neg (by rw [h.form.2, hx]; simp)]
  have hf := tamper_form x i xs
  refine ⟨he, ⟨⟨hf.1.trans h.form.1, hf.2.trans h.form.2⟩, h.wf.tamper i xs, h.live.tamper i xs, ?_, fun j hj => ?_⟩⟩
  · unfold tamperI
    rw [if_neg (by rw [hc]; simp)]
    dsimp only
    rw [h.ca]
    funext j
    unfold updI
    split <;> rfl
  · unfold tamperI
    rw [if_neg (by rw [hc]; simp)]
    dsimp only
    rw [Int.toNat_natCast]
    by_cases e : j = i
    · rw [if_pos e, e, List.getD_eq_getElem?_getD, List.getElem?_set_self (by rw [h.form.1]; exact hi)]; rfl
    · rw [if_neg e, List.getD_eq_getElem?_getD, List.getElem?_set_ne (fun h => e h.symm), ← List.getD_eq_getElem?_getD]
      exact h.has j hj
theorem strs_strV (n : Nat) (f : Nat → List Int) : strs n f = strV ((List.range n).map f) := by simp [strs, strV]
theorem rep_len (n : Nat) (c : Int) : (rep n c).length = n := by simp [rep]
end Go.Proofs.Ytkndnlhlglgmfaa
