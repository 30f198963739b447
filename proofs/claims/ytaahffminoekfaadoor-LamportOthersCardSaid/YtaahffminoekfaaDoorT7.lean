/-
  Slices of hashes; the sum of a key's parts, walked; the document's numbers, walked.
-/
import Derived.Test.YtaahffminoekfaaDoorT6
import Derived.Deep.MidRow
namespace Go.Proofs.YtaahffminoekfaaDoor
open Go.RowKit Go.ChangeShapes Go.WideShapes
/-- A slice of hashes that is read. -/
def SlH (w : World) (v : Value) (hs : List (List Int)) : Prop :=
  (v = .slice none 0 0 ∧ hs = []) ∨ ∃ (a : Addr) (cap : Nat), v = .slice (some a) hs.length cap ∧ hs.length ≤ cap ∧ cap ≤ maxLen ∧
    ∀ r, r < hs.length → a.spot = none ∧ (hs.getD r []).length = 32 ∧ Bytes (hs.getD r []) ∧ w.rangeAt a.block (a.off + 32 * r) (u8s (hs.getD r []))
theorem SlH.small {w : World} {v : Value} {hs : List (List Int)} (h : SlH w v hs) : hs.length ≤ 9223372036854775807 := by
  rcases h with ⟨_, rfl⟩ | ⟨_, _, _, h1, h2, _⟩
  · simp
  · unfold maxLen at h2; omega
theorem SlH.form {w : World} {v : Value} {hs : List (List Int)} (h : SlH w v hs) (hn : 0 < hs.length) : ∃ b off cap, v = .slice (some ⟨b, off, none⟩) hs.length cap ∧ hs.length ≤ cap ∧ cap ≤ maxLen ∧ b < w.heap.size ∧
    ∀ r, r < hs.length → (hs.getD r []).length = 32 ∧ Bytes (hs.getD r []) ∧ w.rangeAt b (off + 32 * r) (u8s (hs.getD r [])) := by
  rcases h with ⟨_, rfl⟩ | ⟨⟨b, off, sp⟩, cap, rfl, h1, h2, hr⟩
  · simp at hn
  · obtain ⟨h3, h4, h5, h6⟩ := hr 0 hn
    obtain rfl : sp = none := h3
    refine ⟨b, off, cap, rfl, h1, h2, ?_, fun r hrl => (hr r hrl).2⟩
    exact World.block_lt_of_cell? w _ (h6 0 _ (u8s_at (by omega)))
theorem SlH.row {w : World} {b off n cap : Nat} {hs : List (List Int)} (h : SlH w (.slice (some ⟨b, off, none⟩) n cap) hs) (r : Nat) (hr : r < hs.length) : SlB w (.slice (some ⟨b, off + 32 * r, none⟩) 32 32) (hs.getD r []) := by
  rcases h with ⟨h, _⟩ | ⟨a, cap', he, _, _, h⟩
  · cases h
  · injection he with h1 h2 h3
    injection h1 with h1
    subst h1
    obtain ⟨_, h4, _, h6⟩ := h r hr
    refine SlB.mk h4.symm (Nat.le_refl _) (by omega) fun j hj => ?_
    exact h6 j _ (u8s_at hj)
theorem SlH.chg {S : Nat → Prop} {w w' : World} {v : Value} {hs : List (List Int)} (h : SlH w v hs) (hc : Chg S w w') (hS : ∀ i, i < w.heap.size → ¬ S i) : SlH w' v hs := by
  rcases h with h | ⟨a, cap, he, h1, h2, h⟩
  · exact .inl h
  · refine .inr ⟨a, cap, he, h1, h2, fun r hr => ⟨(h r hr).1, (h r hr).2.1, (h r hr).2.2.1, fun j u hu => ?_⟩⟩
    have := (h r hr).2.2.2 j u hu
    exact hc.cell this (hS _ (World.block_lt_of_cell? w _ this))
theorem SlH.up {w w' : World} {v : Value} {hs : List (List Int)} (h : SlH w v hs) (hu : Up w w') : SlH w' v hs := h.chg hu (fun _ _ h => h)
theorem SlH.lens {w : World} {v : Value} {hs : List (List Int)} (h : SlH w v hs) (r : Nat) (hr : r < hs.length) : (hs.getD r []).length = 32 ∧ Bytes (hs.getD r []) := by
  rcases h with ⟨_, rfl⟩ | ⟨_, _, _, _, _, h⟩
  · simp at hr
  · exact ⟨(h r hr).2.1, (h r hr).2.2.1⟩
theorem flat_len32 : ∀ (hs : List (List Int)), (∀ r, r < hs.length → (hs.getD r []).length = 32) → hs.flatten.length = 32 * hs.length
  | [], _ => rfl
  | x :: hs, h => by
    have h0 : x.length = 32 := by simpa using h 0 (by simp)
    have ih := flat_len32 hs fun r hr => by simpa using h (r + 1) (by simpa using hr)
    rw [List.flatten_cons, List.length_append, ih, h0, List.length_cons]
    omega
set_option maxRecDepth 100000 in
theorem open_t49 {H : Type} {enc : TypeId × Value → H} {W : World} {base : Nat} {v : Value} {d : DataW H} {p : List MemPlace} (hv : Value.okWide Tryd.prog W .any base 49 v)
    (h : DataW.Trod enc Tryd.prog W 0 (fun _ => true) true 49 v d p) : ∃ hs, SlH W v hs := by
  obtain ⟨a0, len, cap, rfl⟩ := okWide_slice Tryd.underlying49 hv
  obtain ⟨fuel, hf⟩ := h
  rcases DataW.trod_slice Tryd.underlying49 hf with ⟨hcs, hx⟩ | ⟨a, len', cap', elems, rest, n, rfl, hcs, _, _, hl, hm, hlen, hel, _, _⟩
  · simp [Value.cells] at hcs
    obtain ⟨rfl, rfl, rfl⟩ := hcs
    exact ⟨[], .inl ⟨rfl, rfl⟩⟩
  · simp [Value.cells] at hcs
    obtain ⟨rfl, rfl, rfl⟩ := hcs
    have each' : ∀ r, r < len → ∃ xs : List Int, xs.length = 32 ∧ Bytes xs ∧ ∀ j, j < 32 → W.cell? ((a.add (r * 32)).add j) = some (.int .u8 (xs.getD j 0)) := fun r hr => by
      have he := hel r hr
      rw [cells25, List.getElem?_eq_getElem (show r < elems.length by omega)] at he
      rw [Option.bind_eq_some_iff] at he
      obtain ⟨cs, hcs, hy⟩ := he
      obtain ⟨_, hcl, hci⟩ := World.cells?_some hcs
      cases n with
      | zero => simp [DataW.trod] at hy
      | succ m =>
        rw [DataW.trod_step] at hy
        unfold DataW.trodStep at hy
        simp only [Tryd.underlying25, cells5] at hy
        rw [if_pos (by rw [cells25]; exact hcl)] at hy
        simp only [Option.map_eq_some_iff] at hy
        obtain ⟨ys, hy, _⟩ := hy
        have hb := mapM_u8 Tryd.underlying5 _ ys hy
        have hat : ∀ i, i < 32 → ∃ x, cs[i]? = some (.int .u8 x) ∧ 0 ≤ x ∧ x ≤ 255 := fun i hi => by
          obtain ⟨x, hx, hbd⟩ := hb i (List.mem_range.2 hi)
          refine ⟨x, ?_, hbd⟩
          have : ((cs.drop i).take 1)[0]? = some (Value.int .u8 x) := by rw [hx]; rfl
          simpa [List.getElem?_take, List.getElem?_drop] using this
        have hint : ∀ i, i < 32 → cs[i]? = some (.int .u8 ((cs.map intOf).getD i 0)) ∧ 0 ≤ (cs.map intOf).getD i 0 ∧ (cs.map intOf).getD i 0 ≤ 255 := fun i hi => by
          obtain ⟨x, hx, hbd⟩ := hat i hi
          have : (cs.map intOf).getD i 0 = x := by simp [List.getD_eq_getElem?_getD, hx, intOf]
          rw [this]
          exact ⟨hx, hbd⟩
        refine ⟨cs.map intOf, by simpa using hcl, fun j => ?_, fun j hj => ?_⟩
        · by_cases hj : j < 32
          · exact (hint j hj).2
          · rw [List.getD_eq_getElem?_getD, List.getElem?_eq_none (by simp; omega)]; simp
        · rw [hci j hj, (hint j hj).1]
    have each : ∀ r, r < len → ∃ xs : List Int, a.spot = none ∧ xs.length = 32 ∧ Bytes xs ∧ W.rangeAt a.block (a.off + 32 * r) (u8s xs) := fun r hr => by
      have hsp : a.spot = none := by
        obtain ⟨xs, _, _, h0⟩ := each' 0 (by omega)
        have := World.cell?_spot (h0 0 (by omega))
        simpa [Addr.add] using this
      obtain ⟨xs, hl32, hb, hc⟩ := each' r hr
      refine ⟨xs, hsp, hl32, hb, fun j u hu => ?_⟩
      have hj : j < 32 := by have := (List.getElem?_eq_some_iff.1 hu).1; simpa [u8s, hl32] using this
      rw [u8s_at (by omega)] at hu
      cases hu
      have h1 := hc j hj
      obtain ⟨b, off, sp⟩ := a
      obtain rfl : sp = none := hsp
      rwa [addr_add, addr_add, Nat.mul_comm r 32] at h1
    obtain ⟨f, hf'⟩ : ∃ f : Nat → List Int, ∀ r, r < len → a.spot = none ∧ (f r).length = 32 ∧ Bytes (f r) ∧ W.rangeAt a.block (a.off + 32 * r) (u8s (f r)) :=
      ⟨fun r => if hr : r < len then (each r hr).choose else [], fun r hr => by simp only [hr, dif_pos]; exact (each r hr).choose_spec⟩
    have hz : ∀ r, r < len → ((List.range len).map f).getD r [] = f r := fun r hr => by simp [List.getD_eq_getElem?_getD, hr]
    refine ⟨(List.range len).map f, .inr ⟨a, cap, by simp, by simpa using hl, hm, fun r hr => ?_⟩⟩
    simp only [List.length_map, List.length_range] at hr
    rw [hz r hr]
    exact hf' r hr
end Go.Proofs.YtaahffminoekfaaDoor
