/-
  The letters that go are taken out: slices.DeleteFunc, walked.
-/
import Derived.Test.YtofmblkmfbioiaaN28
namespace Go.Proofs.Ytofmblkmfbioiaa
open Go.RowKit
abbrev LetD := Let × Value
def rowP (zs : List LetD) : List Value := (zs.map fun z => letC z.1 z.2).flatten
theorem rowP_zip : ∀ (ls : List Let) (ds : List Value), rowP (ls.zip ds) = rowC ls ds
  | [], _ => by simp [rowP, rowC]
  | _ :: _, [] => by simp [rowP, rowC]
  | x :: ls, d :: ds => by
    have := rowP_zip ls ds
    simp only [rowP, rowC] at this ⊢
    simp [this]
theorem rowP_app (a b : List LetD) : rowP (a ++ b) = rowP a ++ rowP b := by simp [rowP]
theorem rowP_len (zs : List LetD) : (rowP zs).length = 3 * zs.length := by
  induction zs with
  | nil => rfl
  | cons z zs ih =>
    have e : rowP (z :: zs) = letC z.1 z.2 ++ rowP zs := by simp [rowP]
    rw [e, List.length_append, ih, List.length_cons]
    simp [letC]; omega
/-- Letters in a row, in pairs with their bytes. -/
def CopZ (W : World) (base : Nat) (v : Value) (zs : List LetD) : Prop :=
  W.ownsRow base 29 3 v zs.length (rowP zs) ∧ ∀ z ∈ zs, W.ownsRow base 5 1 z.2 z.1.2.2.length (u8s z.1.2.2)
theorem CopR.z {W : World} {base : Nat} {v : Value} {ds : List Value} {ls : List Let} (h : CopR W base v ds ls) : CopZ W base v (ls.zip ds) := by
  obtain ⟨h1, h2, h3⟩ := h
  have hl : (ls.zip ds).length = ls.length := by rw [List.length_zip, h1]; simp
  refine ⟨by rw [rowP_zip, hl]; exact h2, fun z hz => ?_⟩
  obtain ⟨j, hj, rfl⟩ := List.mem_iff_getElem.1 hz
  have hj1 : j < ls.length := by omega
  have := h3 j hj1
  rw [List.getElem_zip]
  rw [List.getD_eq_getElem?_getD, List.getElem?_eq_getElem (show j < ds.length by omega), List.getD_eq_getElem?_getD, List.getElem?_eq_getElem hj1] at this
  exact this
theorem CopZ.r {W : World} {base : Nat} {v : Value} {zs : List LetD} (h : CopZ W base v zs) : CopR W base v (zs.map (·.2)) (zs.map (·.1)) := by
  refine ⟨by simp, ?_, fun j hj => ?_⟩
  · rw [← rowP_zip, List.length_map]
    have : (zs.map (·.1)).zip (zs.map (·.2)) = zs := by
      apply List.ext_getElem (by simp)
      intro j h1 h2
      simp
    rw [this]; exact h.1
  · rw [List.length_map] at hj
    rw [List.getD_eq_getElem?_getD, List.getD_eq_getElem?_getD, List.getElem?_map, List.getElem?_map, List.getElem?_eq_getElem hj]
    exact h.2 _ (List.getElem_mem hj)
/-- The row while it is gone through: the first i letters are those kept of the first j; from the j-th on all is as it was. -/
structure Mid (W : World) (base g c : Nat) (zs : List LetD) (q : LetD → Bool) (i j : Nat) (us : List Value) : Prop where
  row : W.ownsRow base 29 3 (.slice (some ⟨g, 0, none⟩) zs.length c) zs.length us
  lt : i < j
  le : j ≤ zs.length
  len : ((zs.take j).filter q).length = i
  head : us.take (3 * i) = rowP ((zs.take j).filter q)
  tail : us.drop (3 * j) = (rowP zs).drop (3 * j)
theorem rowP_at (zs : List LetD) (k : Nat) (hk : k < zs.length) : ∀ i, i < 3 → (rowP zs)[3 * k + i]? = (letC zs[k].1 zs[k].2)[i]? := by
  intro i hi
  have e : zs = zs.take k ++ zs[k] :: zs.drop (k + 1) := by simp
  have e2 : rowP zs = rowP (zs.take k) ++ (letC zs[k].1 zs[k].2 ++ rowP (zs.drop (k + 1))) := by
    have e3 : rowP (zs[k] :: zs.drop (k + 1)) = letC zs[k].1 zs[k].2 ++ rowP (zs.drop (k + 1)) := by simp only [rowP, List.map_cons, List.flatten_cons]
    rw [← e3, ← rowP_app, ← e]
  have hl : (rowP (zs.take k)).length = 3 * k := by rw [rowP_len, List.length_take]; omega
  rw [e2, List.getElem?_append_right (by omega), hl, show 3 * k + i - 3 * k = i by omega, List.getElem?_append_left (by simpa [letC] using hi)]
theorem Mid.cells {W : World} {base g c : Nat} {zs : List LetD} {q : LetD → Bool} {i j : Nat} {us : List Value} (h : Mid W base g c zs q i j us) (hj : j < zs.length) :
    W.cell? ⟨g, j * 3, none⟩ = some (.int .i64 zs[j].1.1) ∧ W.cell? ⟨g, j * 3 + 1, none⟩ = some (.int .i64 zs[j].1.2.1) ∧ W.cell? ⟨g, j * 3 + 2, none⟩ = some zs[j].2 := by
  have e : ∀ k, k < 3 → us[3 * j + k]? = (letC zs[j].1 zs[j].2)[k]? := fun k hk => by
    have := congrArg (fun l => l[k]?) h.tail
    simp only [List.getElem?_drop] at this
    rw [this]; exact rowP_at zs j hj k hk
  have f := fun k v hv => World.ownsRow.cells h.row rfl (3 * j + k) v hv
  refine ⟨?_, ?_, ?_⟩
  · have := f 0 _ ((e 0 (by omega)).trans rfl); rwa [addr_add, Nat.zero_add, show 3 * j + 0 = j * 3 by omega] at this
  · have := f 1 _ ((e 1 (by omega)).trans rfl); rwa [addr_add, Nat.zero_add, show 3 * j + 1 = j * 3 + 1 by omega] at this
  · have := f 2 _ ((e 2 (by omega)).trans rfl); rwa [addr_add, Nat.zero_add, show 3 * j + 2 = j * 3 + 2 by omega] at this
theorem filter_take_succ (zs : List LetD) (q : LetD → Bool) (j : Nat) (hj : j < zs.length) : (zs.take (j + 1)).filter q = (zs.take j).filter q ++ if q zs[j] = true then [zs[j]] else [] := by
  rw [List.take_add_one, List.getElem?_eq_getElem hj, List.filter_append]
  congr 1
  simp [List.filter_cons]
theorem Mid.skip {W : World} {base g c : Nat} {zs : List LetD} {q : LetD → Bool} {i j : Nat} {us : List Value} (h : Mid W base g c zs q i j us) (hj : j < zs.length) (hq : q zs[j] = false) : Mid W base g c zs q i (j + 1) us := by
  have e := filter_take_succ zs q j hj
  rw [hq] at e
  simp at e
  refine ⟨h.row, by have := h.lt; omega, by omega, by rw [e]; exact h.len, by rw [e]; exact h.head, ?_⟩
  have := congrArg (List.drop 3) h.tail
  simpa [List.drop_drop, show 3 * j + 3 = 3 * (j + 1) by omega] using this
theorem Mid.keep {W : World} {base g c : Nat} {zs : List LetD} {q : LetD → Bool} {i j : Nat} {us : List Value} (h : Mid W base g c zs q i j us) (hj : j < zs.length) (hq : q zs[j] = true) :
    Mid (((W.setCell ⟨g, i * 3, none⟩ (.int .i64 zs[j].1.1)).setCell ⟨g, i * 3 + 1, none⟩ (.int .i64 zs[j].1.2.1)).setCell ⟨g, i * 3 + 2, none⟩ zs[j].2) base g c zs q (i + 1) (j + 1) (((us.set (i * 3) (.int .i64 zs[j].1.1)).set (i * 3 + 1) (.int .i64 zs[j].1.2.1)).set (i * 3 + 2) zs[j].2) := by
  have e := filter_take_succ zs q j hj
  rw [if_pos hq] at e
  have r1 := (World.ownsRow.stored h.row (i * 3) (.int .i64 zs[j].1.1)).1
  have r2 := (World.ownsRow.stored r1 (i * 3 + 1) (.int .i64 zs[j].1.2.1)).1
  have r3 := (World.ownsRow.stored r2 (i * 3 + 2) zs[j].2).1
  have hlt := h.lt
  have hul : us.length = 3 * zs.length := by rw [h.row.1]; omega
  refine ⟨r3, by omega, by omega, by rw [e, List.length_append, h.len]; rfl, ?_, ?_⟩
  · rw [e, rowP_app]
    have hh := h.head
    apply List.ext_getElem?
    intro k
    have hrl : (rowP ((zs.take j).filter q)).length = 3 * i := by rw [rowP_len, h.len]
    rw [List.getElem?_take]
    by_cases hk : k < 3 * i
    · rw [if_pos (by omega), List.getElem?_append_left (by omega), ← hh, List.getElem?_take, if_pos hk, List.getElem?_set_ne (by omega), List.getElem?_set_ne (by omega), List.getElem?_set_ne (by omega)]
    · rw [List.getElem?_append_right (by omega), hrl]
      have cases3 : k = i * 3 ∨ k = i * 3 + 1 ∨ k = i * 3 + 2 ∨ 3 * (i + 1) ≤ k := by omega
      rcases cases3 with rfl | rfl | rfl | hk3
      · rw [if_pos (by omega), List.getElem?_set_ne (by omega), List.getElem?_set_ne (by omega), List.getElem?_set_self (by omega), show i * 3 - 3 * i = 0 by omega]; rfl
      · rw [if_pos (by omega), List.getElem?_set_ne (by omega), List.getElem?_set_self (by simp; omega), show i * 3 + 1 - 3 * i = 1 by omega]; rfl
      · rw [if_pos (by omega), List.getElem?_set_self (by simp; omega), show i * 3 + 2 - 3 * i = 2 by omega]; rfl
      · rw [if_neg (by omega), List.getElem?_eq_none (by simp [rowP, letC]; omega)]
  · apply List.ext_getElem?
    intro k
    have := congrArg (fun l => l[3 + k]?) h.tail
    simp only [List.getElem?_drop] at this ⊢
    rw [List.getElem?_set_ne (by omega), List.getElem?_set_ne (by omega), List.getElem?_set_ne (by omega), show 3 * (j + 1) + k = 3 * j + (3 + k) by omega]
    exact this
end Go.Proofs.Ytofmblkmfbioiaa
