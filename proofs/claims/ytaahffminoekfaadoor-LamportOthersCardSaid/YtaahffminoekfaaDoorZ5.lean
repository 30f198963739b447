/-
  A row of 512 hashes that is written to; what a signature of layer 5 leads to.
-/
import Derived.Test.YtaahffminoekfaaDoorZ2
namespace Go.Proofs.YtaahffminoekfaaDoor
open Go.RowKit Go.Shelf
theorem Chg.setCells {S : Nat → Prop} {a : World} (b : Nat) (hb : S b ∨ a.heap.size ≤ b) : ∀ (vs : List Value) (o : Nat) (w : World), Chg S a w → Chg S a (w.setCells b o vs)
  | [], _, _, h => h
  | v :: r, o, w, h => by
    rw [World.setCells]
    exact Chg.setCells b hb r (o + 1) _ (h.setCell ⟨b, o, none⟩ hb v)
/-- 512 hashes lie in a block, and may be written. -/
def HRow (w : World) (g : Nat) (hs : List (List Int)) : Prop :=
  hs.length = 512 ∧ ∀ r, r < 512 → (hs.getD r []).length = 32 ∧ Bytes (hs.getD r []) ∧ w.rangeAt g (32 * r) (u8s (hs.getD r [])) ∧ w.there g (32 * r) 32
theorem HRow.of_own {w : World} {base g c : Nat} {hs : List (List Int)} (h : w.ownsRow base 25 32 (.slice (some ⟨g, 0, none⟩) 512 c) 512 (u8s hs.flatten)) (hl : hs.length = 512) (each : ∀ r, r < 512 → (hs.getD r []).length = 32 ∧ Bytes (hs.getD r [])) : HRow w g hs := by
  have hs1 := own_slh (w := w) (base := base) (c := c) (B := some ⟨g, 0, none⟩) (hs := hs) (by rw [hl]; exact h) (by rw [hl]; exact each)
  rcases hs1 with ⟨h1, _⟩ | ⟨a, cap, he, h1, h2, hr⟩
  · cases h1
  · injection he with e1 e2 e3
    injection e1 with e1
    subst e1
    refine ⟨hl, fun r hr2 => ?_⟩
    obtain ⟨_, q1, q2, q3⟩ := hr r (by omega)
    simp only [Nat.zero_add] at q3
    refine ⟨q1, q2, q3, fun j hj => ⟨q3.isSome j (by rw [u8s_len, q1]; exact hj), ?_⟩⟩
    rcases h.2 with ⟨h0, _⟩ | ⟨g', cap', cur, he2, _, hg, _⟩
    · cases h0
    · injection he2 with e1 e2 e3
      injection e1 with e1
      injection e1 with e1
      subst e1
      simp [World.frozen?, hg]
theorem there_chg {S : Nat → Prop} {w w' : World} {g o n : Nat} (h : w.there g o n) (hc : Chg S w w') (hS : ¬ S g) : w'.there g o n := fun j hj => by
  obtain ⟨h1, h2⟩ := h j hj
  obtain ⟨u, hu⟩ := Option.isSome_iff_exists.1 h1
  refine ⟨by rw [hc.cell hu hS]; rfl, ?_⟩
  rw [hc.frozen (World.block_lt_of_cell? w _ hu) hS]; exact h2
theorem HRow.chg {S : Nat → Prop} {w w' : World} {g : Nat} {hs : List (List Int)} (h : HRow w g hs) (hc : Chg S w w') (hS : ¬ S g) : HRow w' g hs :=
  ⟨h.1, fun r hr => ⟨(h.2 r hr).1, (h.2 r hr).2.1, fun j v hv => hc.cell ((h.2 r hr).2.2.1 j v hv) hS, there_chg (h.2 r hr).2.2.2 hc hS⟩⟩
theorem HRow.slh {w : World} {g c : Nat} {hs : List (List Int)} (h : HRow w g hs) (h1 : 512 ≤ c) (h2 : c ≤ maxLen) : SlH w (.slice (some ⟨g, 0, none⟩) 512 c) hs := by
  refine .inr ⟨⟨g, 0, none⟩, c, by rw [h.1], by rw [h.1]; exact h1, h2, fun r hr => ?_⟩
  rw [h.1] at hr
  obtain ⟨q1, q2, q3, _⟩ := h.2 r hr
  exact ⟨rfl, q1, q2, by simpa using q3⟩
theorem getD_set (l : List (List Int)) (p q : Nat) (x : List Int) (hp : p < l.length) : (l.set p x).getD q [] = if p = q then x else l.getD q [] := by
  simp only [List.getD_eq_getElem?_getD, List.getElem?_set]
  by_cases h : p = q
  · subst h; simp [hp]
  · simp [h]
theorem HRow.store {w : World} {g : Nat} {hs : List (List Int)} (h : HRow w g hs) (p : Nat) (hp : p < 512) (x : List Int) (hx : x.length = 32) (hb : Bytes x) : HRow (w.setCells g (32 * p) (u8s x)) g (hs.set p x) := by
  have hl := h.1
  refine ⟨by rw [List.length_set]; exact hl, fun r hr => ?_⟩
  obtain ⟨q1, q2, q3, q4⟩ := h.2 r hr
  rw [getD_set hs p r x (by omega)]
  have ht := World.there_setCells q4 g (32 * p) (u8s x)
  by_cases hpr : p = r
  · subst hpr
    rw [if_pos rfl]
    exact ⟨hx, hb, World.rangeAt_setCells_same _ _ _ _ (by rw [u8s_len, hx]; exact q4), ht⟩
  · rw [if_neg hpr]
    exact ⟨q1, q2, World.rangeAt_setCells_apart q3 g _ _ (by rw [u8s_len, u8s_len, q1, hx]; omega), ht⟩
/-- One bit's two ends. -/
def updL (m : List Int) (sg : List (List Int)) (hs : List (List Int)) (k : Nat) : List (List Int) :=
  (hs.set (2 * (k % 256) + (bitI m (k % 256)).toNat) (stepI (sg.getD (2 * (k % 256)) []) (67 + ((k % 256 : Nat) : Int)) (bitI m (k % 256)))).set (2 * (k % 256) + 1 - (bitI m (k % 256)).toNat) (sg.getD (2 * (k % 256) + 1) [])
def recL (m : List Int) (sg ini : List (List Int)) (n : Nat) : List (List Int) := (List.range n).foldl (updL m sg) ini
theorem recL_zero (m : List Int) (sg ini : List (List Int)) : recL m sg ini 0 = ini := rfl
theorem recL_succ (m : List Int) (sg ini : List (List Int)) (n : Nat) : recL m sg ini (n + 1) = updL m sg (recL m sg ini n) n := by
  unfold recL; rw [List.range_succ, List.foldl_append]; rfl
theorem updL_len (m : List Int) (sg hs : List (List Int)) (k : Nat) : (updL m sg hs k).length = hs.length := by unfold updL; simp
theorem recL_len (m : List Int) (sg ini : List (List Int)) (n : Nat) : (recL m sg ini n).length = ini.length := by
  induction n with
  | zero => rfl
  | succ n ih => rw [recL_succ, updL_len, ih]
theorem recL_at (m : List Int) (sg ini : List (List Int)) (hi : ini.length = 512) (n k : Nat) (hn : n ≤ 256) (hk : k < n) :
    (recL m sg ini n).getD (2 * k + (bitI m k).toNat) [] = stepI (sg.getD (2 * k) []) (67 + (k : Int)) (bitI m k) ∧ (recL m sg ini n).getD (2 * k + 1 - (bitI m k).toNat) [] = sg.getD (2 * k + 1) [] := by
  induction n with
  | zero => omega
  | succ n ih =>
    have hb := bitI_bd m k
    have hbn := bitI_bd m n
    have hl := recL_len m sg ini n
    rw [recL_succ]
    unfold updL
    rw [Nat.mod_eq_of_lt (show n < 256 by omega)]
    rw [getD_set _ _ _ _ (by first | (rw [List.length_set]; omega) | omega), getD_set _ _ _ _ (by first | (rw [List.length_set]; omega) | omega), getD_set _ _ _ _ (by first | (rw [List.length_set]; omega) | omega), getD_set _ _ _ _ (by first | (rw [List.length_set]; omega) | omega)]
    by_cases h : k = n
    · subst h
      refine ⟨?_, ?_⟩
      · rw [if_neg (by omega), if_pos rfl]
      · rw [if_pos rfl]
    · obtain ⟨h1, h2⟩ := ih (by omega) (by omega)
      refine ⟨?_, ?_⟩
      · rw [if_neg (by omega), if_neg (by omega)]; exact h1
      · rw [if_neg (by omega), if_neg (by omega)]; exact h2
theorem eq_of_pairs (m : List Int) (l l' : List (List Int)) (h1 : l.length = 512) (h2 : l'.length = 512) (h : ∀ k, k < 256 → l.getD (2 * k + (bitI m k).toNat) [] = l'.getD (2 * k + (bitI m k).toNat) [] ∧ l.getD (2 * k + 1 - (bitI m k).toNat) [] = l'.getD (2 * k + 1 - (bitI m k).toNat) []) : l = l' := by
  refine List.ext_getElem (by omega) fun r hr hr' => ?_
  obtain ⟨a, b⟩ := h (r / 2) (by omega)
  have hb := bitI_bd m (r / 2)
  have hc : r = 2 * (r / 2) + (bitI m (r / 2)).toNat ∨ r = 2 * (r / 2) + 1 - (bitI m (r / 2)).toNat := by omega
  have key : l.getD r [] = l'.getD r [] := by
    rcases hc with hc | hc
    · rw [hc]; exact a
    · rw [hc]; exact b
  simpa [List.getD_eq_getElem?_getD, List.getElem?_eq_getElem hr, List.getElem?_eq_getElem hr'] using key
theorem recL_any (m : List Int) (sg ini ini' : List (List Int)) (h1 : ini.length = 512) (h2 : ini'.length = 512) : recL m sg ini 256 = recL m sg ini' 256 :=
  eq_of_pairs m _ _ (by rw [recL_len, h1]) (by rw [recL_len, h2]) fun k hk => by
    obtain ⟨a, b⟩ := recL_at m sg ini h1 256 k (by omega) hk
    obtain ⟨c, d⟩ := recL_at m sg ini' h2 256 k (by omega) hk
    exact ⟨a.trans c.symm, b.trans d.symm⟩
theorem rec_sgn (h : List Int) (a : Int) (m : List Int) (ini : List (List Int)) (hi : ini.length = 512) : recL m (sgnL h a m 256) ini 256 = pubL h a 256 :=
  eq_of_pairs m _ _ (by rw [recL_len, hi]) (pairs_len _ _ _) fun k hk => by
    obtain ⟨a1, b1⟩ := recL_at m (sgnL h a m 256) ini hi 256 k (by omega) hk
    obtain ⟨s0, s1⟩ := pairs_at (fun k => secI h a (67 + 2 * (k : Int) + bitI m k)) (fun k => endL h a k (1 - bitI m k)) 256 k hk
    obtain ⟨p0, p1⟩ := pairs_at (fun k => endL h a k 0) (fun k => endL h a k 1) 256 k hk
    change (sgnL h a m 256).getD (2 * k) [] = _ at s0
    change (sgnL h a m 256).getD (2 * k + 1) [] = _ at s1
    change (pubL h a 256).getD (2 * k) [] = _ at p0
    change (pubL h a 256).getD (2 * k + 1) [] = _ at p1
    rw [a1, b1, s0, s1, endL_eq]
    have hb := bitI_bd m k
    have hc : bitI m k = 0 ∨ bitI m k = 1 := by omega
    rcases hc with hc | hc
    · rw [hc]
      exact ⟨p0.symm, p1.symm⟩
    · rw [hc]
      exact ⟨p1.symm, p0.symm⟩
theorem updL_each (m : List Int) (sg hs : List (List Int)) (k : Nat) (hl : hs.length = 512) (hh : ∀ r, r < 512 → (hs.getD r []).length = 32 ∧ Bytes (hs.getD r [])) (hsg : ∀ r, r < 512 → (sg.getD r []).length = 32 ∧ Bytes (sg.getD r [])) : ∀ r, r < 512 → ((updL m sg hs k).getD r []).length = 32 ∧ Bytes ((updL m sg hs k).getD r []) := by
  intro r hr
  have hb := bitI_bd m (k % 256)
  unfold updL
  rw [getD_set _ _ _ _ (by rw [List.length_set]; omega), getD_set _ _ _ _ (by omega)]
  split
  · exact hsg _ (by omega)
  · split
    · exact ⟨stepI_len _ _ _, stepI_bytes _ _ _⟩
    · exact hh r hr
/-- What a region may do that writes two hashes into a row. -/
def RowExt (g p q : Nat) (x y : List Value) (w w' : World) : Prop :=
  Chg (fun i => i = g) w w' ∧ (∀ r, w.there g (32 * r) 32 → w'.there g (32 * r) 32) ∧ (∀ r z, z.length = 32 → (r = p → z = x) → (r = q → z = y) → w.rangeAt g (32 * r) z → w'.rangeAt g (32 * r) z)
theorem RowExt.refl (g p q : Nat) (x y : List Value) (w : World) : RowExt g p q x y w w := ⟨Chg.refl _ w, fun _ h => h, fun _ _ _ _ _ h => h⟩
theorem RowExt.trans {g p q : Nat} {x y : List Value} {a b c : World} (h : RowExt g p q x y a b) (k : RowExt g p q x y b c) : RowExt g p q x y a c :=
  ⟨h.1.trans k.1, fun r hr => k.2.1 r (h.2.1 r hr), fun r z h1 h2 h3 h4 => k.2.2 r z h1 h2 h3 (h.2.2 r z h1 h2 h3 h4)⟩
theorem RowExt.of_up {g p q : Nat} {x y : List Value} {w w' : World} (h : Up w w') : RowExt g p q x y w w' :=
  ⟨h.mono (fun _ _ h => h.elim), fun r hr => there_chg hr h (fun h => h), fun r z _ _ _ hz j v hv => h.cell (hz j v hv) (fun h => h)⟩
theorem RowExt.store0 {g p q : Nat} {x y : List Value} (w : World) (hpq : p ≠ q) (hx : x.length = 32) (ht : w.there g (32 * p) 32) : RowExt g p q x y w (w.setCells g (32 * p) x) ∧ (w.setCells g (32 * p) x).rangeAt g (32 * p) x := by
  refine ⟨⟨Chg.setCells (S := fun i => i = g) g (.inl rfl) _ _ _ (Chg.refl _ w), fun r hr => World.there_setCells hr _ _ _, fun r z hz h1 h2 hr => ?_⟩, World.rangeAt_setCells_same _ _ _ _ (by rw [hx]; exact ht)⟩
  by_cases hp : r = p
  · subst hp
    rw [h1 rfl]
    exact World.rangeAt_setCells_same _ _ _ _ (by rw [hx]; exact ht)
  · exact World.rangeAt_setCells_apart hr _ _ _ (by rw [hz, hx]; omega)
theorem RowExt.store1 {g p q : Nat} {x y : List Value} (w : World) (hpq : p ≠ q) (hy : y.length = 32) (ht : w.there g (32 * q) 32) : RowExt g p q x y w (w.setCells g (32 * q) y) ∧ (w.setCells g (32 * q) y).rangeAt g (32 * q) y := by
  refine ⟨⟨Chg.setCells (S := fun i => i = g) g (.inl rfl) _ _ _ (Chg.refl _ w), fun r hr => World.there_setCells hr _ _ _, fun r z hz h1 h2 hr => ?_⟩, World.rangeAt_setCells_same _ _ _ _ (by rw [hy]; exact ht)⟩
  by_cases hp : r = q
  · subst hp
    rw [h2 rfl]
    exact World.rangeAt_setCells_same _ _ _ _ (by rw [hy]; exact ht)
  · exact World.rangeAt_setCells_apart hr _ _ _ (by rw [hz, hy]; omega)
theorem HRow.ext {w w' : World} {g p q : Nat} {hs : List (List Int)} {x y : List Int} (h : HRow w g hs) (he : RowExt g p q (u8s x) (u8s y) w w') (hp : p < 512) (hq : q < 512) (hpq : p ≠ q) (hx : x.length = 32) (hxb : Bytes x) (hy : y.length = 32) (hyb : Bytes y)
    (h1 : w'.rangeAt g (32 * p) (u8s x)) (h2 : w'.rangeAt g (32 * q) (u8s y)) : HRow w' g ((hs.set p x).set q y) := by
  have hl := h.1
  refine ⟨by simp [hl], fun r hr => ?_⟩
  obtain ⟨q1, q2, q3, q4⟩ := h.2 r hr
  rw [getD_set _ q r y (by rw [List.length_set]; omega), getD_set _ p r x (by omega)]
  have ht := he.2.1 r q4
  by_cases hqr : q = r
  · subst hqr; rw [if_pos rfl]; exact ⟨hy, hyb, h2, ht⟩
  · rw [if_neg hqr]
    by_cases hpr : p = r
    · subst hpr; rw [if_pos rfl]; exact ⟨hx, hxb, h1, ht⟩
    · rw [if_neg hpr]
      exact ⟨q1, q2, he.2.2 r _ (by rw [u8s_len, q1]) (fun e => absurd e.symm hpr) (fun e => absurd e.symm hqr) q3, ht⟩
end Go.Proofs.YtaahffminoekfaaDoor
