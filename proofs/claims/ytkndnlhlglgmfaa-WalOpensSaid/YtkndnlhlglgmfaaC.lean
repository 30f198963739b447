/-
  Slices that are read; an append of whatever slice to a row of the call's own.
-/
import Derived.Test.YtkndnlhlglgmfaaB
import Derived.Maps.AppendAt
import Derived.Laws.AppendOwnNone
import Derived.Deep.WholeRow
namespace Go.Proofs.Ytkndnlhlglgmfaa
open Go.RowKit
/-- A slice value whose cells are these. -/
def Src (w : World) (v : Value) (size n : Nat) (news : List Value) : Prop :=
  (v = .slice none 0 0 ∧ n = 0 ∧ news = []) ∨ ∃ ad c, v = .slice (some ad) n c ∧ news.length = n * size ∧ n ≤ c ∧ c ≤ 9223372036854775807 ∧ ∀ j u, news[j]? = some u → w.cell? (ad.add j) = some u
theorem Src.len {w : World} {v : Value} {size n : Nat} {news : List Value} (h : Src w v size n news) : news.length = n * size := by
  rcases h with ⟨_, rfl, rfl⟩ | ⟨_, _, _, h, _⟩
  · simp
  · exact h
/-- The block that a slice lies in. -/
def Value.blk : Value → Option Nat
  | .slice (some a) _ _ => some a.block
  | _ => none
theorem Src.chg {S : Nat → Prop} {w w' : World} {v : Value} {size n : Nat} {news : List Value} (h : Src w v size n news) (hc : Chg S w w') (hS : ∀ b, Value.blk v = some b → 0 < n → ¬ S b) (_h0 : 0 < size) : Src w' v size n news := by
  rcases h with h | ⟨ad, c, rfl, hl, h1, h2, hr⟩
  · exact .inl h
  · refine .inr ⟨ad, c, rfl, hl, h1, h2, fun j u hu => hc.cell (hr j u hu) ?_⟩
    have hj : j < news.length := (List.getElem?_eq_some_iff.1 hu).1
    have hn : 0 < n := by
      rcases Nat.eq_zero_or_pos n with h | h
      · subst h; omega
      · exact h
    have : (ad.add j).block = ad.block := by unfold Addr.add; split <;> rfl
    rw [this]
    exact hS _ rfl hn
theorem ap_own {P : Program} {w : World} {ops : Array Oper} {rest : List Oper} {o : Oper} {a : Act} {Q : Exit → Act → World → Prop} (hgd : o.guard = none) (s x : Operand) (t : TypeId)
    (ho : o.op = .call { callee := .builtin .append, args := #[s, x], argTypes := #[t, t] })
    (base : Nat) (e : TypeId) (z : Value) (size bytes : Nat) (ht : P.underlying t = some (.slice e)) (hinfo : (P.info? e).map (fun i => (i.zero, i.size, i.bytes)) = some (some z, size, bytes))
    (hzs : z.cells.size = size) (hsz : 0 < size)
    (v : Value) (n : Nat) (xs : List Value) (hs : a.eval s = v) (hown : w.ownsRow base e size v n xs)
    (xv : Value) (hx : a.eval x = xv) (m : Nat) (news : List Value) (hsrc : Src w xv size m news) (h1 : ∀ u ∈ news, u.oneCell' = true)
    (h63 : n + m ≤ 140737488355328) (hbytes : (n + m) * bytes ≤ 140737488355328) (hbase : base ≤ w.heap.size)
    (h : ∀ v' w', w'.ownsRow base e size v' (n + m) (xs ++ news) → w.grownBy w' v.ownBlock → (v' = .slice none 0 0 ↔ v = .slice none 0 0 ∧ m = 0) → (v'.ownBlock = v.ownBlock ∨ v'.ownBlock = some w.heap.size) → wpList P ops Q rest (a.put o.dst v') w') :
    wpList P ops Q (o :: rest) a w := by
  obtain ⟨i, hi, hzz⟩ := Option.map_eq_some_iff.1 hinfo
  simp only [Prod.mk.injEq] at hzz
  obtain ⟨hz0, hz1, hz2⟩ := hzz
  rcases hsrc with ⟨rfl, rfl, rfl⟩ | ⟨ad, c, rfl, hl, _, _, hr⟩
  · exact wpList_append_own_none hgd s x t ho base e i size ht hi v n xs hs hown hx
      (h v w (by simpa using hown) ⟨rfl, rfl, rfl, Nat.le_refl _, fun _ _ _ => rfl⟩ (by simp) (.inl rfl))
  · exact wpList_append_own_at w hgd s x t ho base e i z size bytes ht hi hz0 hz1 hz2 hzs hsz v n xs hs hown ad m c news hx hl hr h1 (by simp only [maxLen]; omega) hbytes hbase h
theorem own_chg {S : Nat → Prop} {w w' : World} {base n : Nat} {e : TypeId} {size : Nat} {v : Value} {xs : List Value} (h : w.ownsRow base e size v n xs) (hc : Chg S w w') (hS : ∀ k, v.ownBlock = some k → ¬ S k) : w'.ownsRow base e size v n xs := by
  refine ⟨h.1, ?_⟩
  rcases h.2 with hn | ⟨g, cap, cur, rfl, hb, hg, hr⟩
  · exact .inl hn
  · exact .inr ⟨g, cap, cur, rfl, hb, hc.heap hg (hS g rfl), hr⟩
theorem own_form {w : World} {base n : Nat} {e : TypeId} {size : Nat} {v : Value} {xs : List Value} (h : w.ownsRow base e size v n xs) (hn : 0 < n) :
    ∃ g cap, v = .slice (some ⟨g, 0, none⟩) n cap ∧ base ≤ g ∧ n ≤ cap ∧ cap ≤ 9223372036854775807 := by
  rcases h.2 with ⟨_, h0⟩ | ⟨g, cap, cur, hv, hb, hg, h1, h2, _⟩
  · omega
  · exact ⟨g, cap, hv, hb, h1, by simpa [maxLen] using h2⟩
/-- The run of an append, to be laid ahead of a walk. -/
theorem ap_run {P : Program} (w : World) (t ty : TypeId) (base : Nat) (e : TypeId) (z : Value) (size bytes : Nat) (ht : P.underlying t = some (.slice e)) (hinfo : (P.info? e).map (fun i => (i.zero, i.size, i.bytes)) = some (some z, size, bytes))
    (hzs : z.cells.size = size) (hsz : 0 < size) (v : Value) (n : Nat) (xs : List Value) (hown : w.ownsRow base e size v n xs)
    (xv : Value) (m : Nat) (news : List Value) (hsrc : Src w xv size m news) (h1 : ∀ u ∈ news, u.oneCell' = true)
    (h63 : n + m ≤ 140737488355328) (hbytes : (n + m) * bytes ≤ 140737488355328) (hbase : base ≤ w.heap.size) :
    ∃ v' w', (Builtin.append_ #[t, t] ty #[v, xv]).run P w = .ok v' w' ∧ w'.ownsRow base e size v' (n + m) (xs ++ news) ∧ w.grownBy w' v.ownBlock ∧
      (v' = .slice none 0 0 ↔ v = .slice none 0 0 ∧ m = 0) ∧ (v'.ownBlock = v.ownBlock ∨ v'.ownBlock = some w.heap.size) := by
  obtain ⟨i, hi, hzz⟩ := Option.map_eq_some_iff.1 hinfo
  simp only [Prod.mk.injEq] at hzz
  obtain ⟨hz0, hz1, hz2⟩ := hzz
  rcases hsrc with ⟨rfl, rfl, rfl⟩ | ⟨ad, c, rfl, hl, _, _, hr⟩
  · exact ⟨v, w, run_append_owned_none (P := P) (w := w) base t ty e i size ht hi v n xs hown, by simpa using hown, ⟨rfl, rfl, rfl, Nat.le_refl _, fun _ _ _ => rfl⟩, by simp, .inl rfl⟩
  · exact run_append_own_at w base t ty e i z size bytes ht hi hz0 hz1 hz2 hzs hsz v n xs hown ad m c news hl hr h1 (by simp only [maxLen]; omega) hbytes hbase
theorem wp_run_append {P : Program} {w w' : World} {o : Oper} {a : Act} {K : Act → World → Prop} {Q : Exit → Act → World → Prop} {v' : Value} (s x : Operand) (t : TypeId)
    (ho : o.op = .call { callee := .builtin .append, args := #[s, x], argTypes := #[t, t] }) (v xv : Value) (hs : a.eval s = v) (hx : a.eval x = xv) (ty : TypeId) (hty : o.type = ty) (hrun : (Builtin.append_ #[t, t] ty #[v, xv]).run P w = .ok v' w')
    (h : K (a.put o.dst v') w') : Oper.wp P o a w K Q := by
  subst hs hx hty
  unfold Oper.wp execOp
  simp only [ho, resolve, invoke, builtin, Sem.run_bind, Sem.run_pure, Result.andThen_ok, List.map_toArray, List.map_cons, List.map_nil, hrun]
  exact h
/-- In a region that draws: behind 'go_region_law'. -/
theorem step_run_append {P : Program} {ops : Array Oper} {w w' : World} {o : Oper} {a : Act} {K : Act → World → Prop} {Q : Exit → Act → World → Prop} {E : Prop} {v' : Value} (hgd : o.guard = none) (s x : Operand) (t : TypeId)
    (ho : o.op = .call { callee := .builtin .append, args := #[s, x], argTypes := #[t, t] }) (v xv : Value) (hs : a.eval s = v) (hx : a.eval x = xv) (ty : TypeId) (hty : o.type = ty) (hrun : (Builtin.append_ #[t, t] ty #[v, xv]).run P w = .ok v' w')
    (h : K (a.put o.dst v') w') : if Region.wanted o (yielded ops a.tmps) = true then Oper.wp P o a w K Q else E := by
  have hw : Region.wanted o (yielded ops a.tmps) = true := by simp [Region.wanted, hgd]
  rw [if_pos hw]
  exact wp_run_append s x t ho v xv hs hx ty hty hrun h
theorem wpList_run_append {P : Program} {w w' : World} {ops : Array Oper} {rest : List Oper} {o : Oper} {a : Act} {Q : Exit → Act → World → Prop} {v' : Value} (hgd : o.guard = none) (s x : Operand) (t : TypeId)
    (ho : o.op = .call { callee := .builtin .append, args := #[s, x], argTypes := #[t, t] }) (v xv : Value) (hs : a.eval s = v) (hx : a.eval x = xv) (ty : TypeId) (hty : o.type = ty) (hrun : (Builtin.append_ #[t, t] ty #[v, xv]).run P w = .ok v' w')
    (h : wpList P ops Q rest (a.put o.dst v') w') : wpList P ops Q (o :: rest) a w :=
  wpList_plain hgd fun _ hK => wp_run_append s x t ho v xv hs hx ty hty hrun (hK _ _ h)
def u8s (l : List Int) : List Value := l.map (.int .u8)
theorem u8s_len (l : List Int) : (u8s l).length = l.length := by simp [u8s]
theorem u8s_one (l : List Int) : ∀ u ∈ u8s l, u.oneCell' = true := by
  intro u hu
  obtain ⟨x, _, rfl⟩ := List.mem_map.1 hu
  rfl
theorem u8s_at {l : List Int} {j : Nat} (h : j < l.length) : (u8s l)[j]? = some (.int .u8 (l.getD j 0)) := by
  simp [u8s, List.getElem?_eq_getElem h, List.getD_eq_getElem?_getD]
/-- A slice of bytes that is read. -/
def SlB (w : World) (v : Value) (xs : List Int) : Prop := Src w v 1 xs.length (u8s xs)
theorem SlB.at_ {w : World} {b off n c : Nat} {xs : List Int} (h : SlB w (.slice (some ⟨b, off, none⟩) n c) xs) : ∀ j, j < xs.length → w.cell? ⟨b, off + j, none⟩ = some (.int .u8 (xs.getD j 0)) := by
  intro j hj
  rcases h with ⟨h, _⟩ | ⟨ad, c', h, _, _, _, hr⟩
  · cases h
  · injection h with h1 h2 h3
    injection h1 with h1
    subst h1
    rw [← addr_add]
    exact hr j _ (u8s_at hj)
theorem SlB.shape {w : World} {v : Value} {xs : List Int} (h : SlB w v xs) : ∃ A c, v = .slice A xs.length c ∧ xs.length ≤ c ∧ c ≤ 9223372036854775807 := by
  rcases h with ⟨rfl, h, _⟩ | ⟨a, c, rfl, _, h1, h2, _⟩
  · rw [h]; exact ⟨none, 0, rfl, Nat.le_refl _, by omega⟩
  · exact ⟨_, c, rfl, h1, h2⟩
/-- A slice of bytes with something in it. -/
theorem SlB.form {w : World} {v : Value} {xs : List Int} (h : SlB w v xs) (hp : 0 < xs.length) : ∃ b off c, v = .slice (some ⟨b, off, none⟩) xs.length c ∧ xs.length ≤ c ∧ c ≤ 9223372036854775807 := by
  rcases h with ⟨_, h, _⟩ | ⟨⟨b, off, sp⟩, c, rfl, _, h1, h2, hr⟩
  · omega
  · have h0 := hr 0 _ (u8s_at hp)
    have : sp = none := by
      cases sp with
      | none => rfl
      | some q =>
        exfalso
        simp only [Addr.add, if_pos] at h0
        unfold World.cell? at h0
        cases hb : w.heap[b]? with
        | none => simp [hb] at h0
        | some o => cases o <;> simp [hb] at h0
    subst this
    exact ⟨b, off, c, rfl, h1, h2⟩
theorem SlB.mk {w : World} {b off n c : Nat} {xs : List Int} (hn : n = xs.length) (h1 : n ≤ c) (h2 : c ≤ 9223372036854775807) (hr : ∀ j, j < xs.length → w.cell? ⟨b, off + j, none⟩ = some (.int .u8 (xs.getD j 0))) : SlB w (.slice (some ⟨b, off, none⟩) n c) xs := by
  subst hn
  refine .inr ⟨⟨b, off, none⟩, c, rfl, by simp [u8s_len], h1, h2, fun j u hu => ?_⟩
  have hj : j < xs.length := by have := (List.getElem?_eq_some_iff.1 hu).1; rwa [u8s_len] at this
  rw [u8s_at hj] at hu
  cases hu
  rw [addr_add]
  exact hr j hj
theorem getD_drop (xs : List Int) (k j : Nat) : (xs.drop k).getD j 0 = xs.getD (k + j) 0 := by
  simp [List.getD_eq_getElem?_getD, List.getElem?_drop]
theorem getD_take (xs : List Int) (k j : Nat) (h : j < k) : (xs.take k).getD j 0 = xs.getD j 0 := by
  simp [List.getD_eq_getElem?_getD, h]
/-- 'b[k:]'. -/
theorem slice_from {P : Program} (t e : TypeId) (ht : P.underlying t = some (.slice e)) (hsz : (P.info? e).map (·.size) = some 1) (w : World) (v : Value) (xs : List Int) (k : Nat) (h : SlB w v xs) (hk : k ≤ xs.length) :
    ∃ v2, SlB w v2 (xs.drop k) ∧ (0 < (xs.drop k).length → Value.blk v2 = Value.blk v) ∧ ∀ W : World, (Instr.slice t v (some (.int .i64 (k : Int))) none none).run P W = .ok v2 W := by
  have he : P.elem t = e := by unfold Program.elem; rw [ht]
  have hs : ∀ W : World, (sizeOf e).run P W = .ok 1 W := fun W => by
    obtain ⟨i, hi, h1⟩ := Option.map_eq_some_iff.1 hsz
    simp [sizeOf, typeInfo, hi, h1]
  have run : ∀ (a : Option Addr) (n c : Nat) (W : World), k ≤ n → (Instr.slice t (.slice a n c) (some (.int .i64 (k : Int))) none none).run P W = .ok (sliced a k n c 1) W := fun a n c W hkn => by
    rw [run_slice_l W t a n c (by rw [he]; exact ht) .i64 (k : Int) (by omega) (by omega), he, hs]
    rfl
  rcases Nat.eq_zero_or_pos xs.length with h0 | h0
  · obtain rfl : xs = [] := List.eq_nil_of_length_eq_zero h0
    obtain rfl : k = 0 := by simpa using hk
    rcases h with ⟨rfl, _, _⟩ | ⟨ad, c, rfl, hl, hc, hc2, hr⟩
    · exact ⟨.slice none 0 0, .inl ⟨rfl, rfl, rfl⟩, by simp, fun W => run _ _ _ W (by omega)⟩
    · refine ⟨_, ?_, by simp, fun W => run _ _ _ W (by omega)⟩
      unfold sliced
      split
      · exact .inr ⟨ad, c, by simp, hl, hc, hc2, hr⟩
      · exact .inr ⟨ad.add (0 * 1), c, by simp, hl, hc, hc2, fun j u hu => by simp [u8s] at hu⟩
  · obtain ⟨b, off, c, rfl, hc, hc2⟩ := h.form h0
    refine ⟨_, ?_, ?_, fun W => run _ _ _ W (by omega)⟩
    · unfold sliced
      split
      · rename_i hck
        obtain hke : k = xs.length := by omega
        subst hke
        refine .inr ⟨⟨b, off, none⟩, c - xs.length, by simp, by simp [u8s], by simp, by omega, fun j u hu => by simp [u8s] at hu⟩
      · rw [Option.map_some, Nat.mul_one, addr_add]
        refine SlB.mk (by simp) (by omega) (by omega) (fun j hj => ?_)
        rw [getD_drop, Nat.add_assoc]
        exact h.at_ (k + j) (by simp at hj; omega)
    · intro hp
      unfold sliced
      rw [if_neg (by simp at hp; omega), Option.map_some, Nat.mul_one, addr_add]
      rfl
/-- 'b[:k]'. -/
theorem slice_to {P : Program} (t e : TypeId) (ht : P.underlying t = some (.slice e)) (hsz : (P.info? e).map (·.size) = some 1) (w : World) (v : Value) (xs : List Int) (k : Nat) (h : SlB w v xs) (hk : k ≤ xs.length) :
    ∃ v2, SlB w v2 (xs.take k) ∧ Value.blk v2 = Value.blk v ∧ ∀ W : World, (Instr.slice t v none (some (.int .i64 (k : Int))) none).run P W = .ok v2 W := by
  have he : P.elem t = e := by unfold Program.elem; rw [ht]
  have hs : ∀ W : World, (sizeOf e).run P W = .ok 1 W := fun W => by
    obtain ⟨i, hi, h1⟩ := Option.map_eq_some_iff.1 hsz
    simp [sizeOf, typeInfo, hi, h1]
  have run : ∀ (a : Option Addr) (n c : Nat) (W : World), k ≤ c → (Instr.slice t (.slice a n c) none (some (.int .i64 (k : Int))) none).run P W = .ok (.slice a k c) W := fun a n c W hkn => by
    rw [run_slice_h W t a n c (by rw [he]; exact ht) .i64 (k : Int) (by omega) (by omega), he, hs]
    have : sliced a 0 k c 1 = .slice a k c := by
      unfold sliced
      have hz : ∀ x : Addr, x.add (0 * 1) = x := fun x => by simp [Addr.add]
      cases a <;> simp [Addr.add]
    simpa using this
  rcases h with ⟨rfl, h0, h1⟩ | ⟨ad, c, rfl, hl, hc, hc2, hr⟩
  · obtain rfl : k = 0 := by omega
    exact ⟨.slice none 0 0, .inl ⟨rfl, by simp, by simp [u8s]⟩, rfl, fun W => run _ _ _ W (by omega)⟩
  · refine ⟨.slice (some ad) k c, .inr ⟨ad, c, by rw [List.length_take, Nat.min_eq_left hk], by simp [u8s], by simp; omega, hc2, fun j u hu => ?_⟩, rfl, fun W => run _ _ _ W (by omega)⟩
    refine hr j u ?_
    have hj : j < (xs.take k).length := by have := (List.getElem?_eq_some_iff.1 hu).1; rwa [u8s_len] at this
    rw [u8s_at hj] at hu
    rw [u8s_at (by simp at hj; omega), ← hu, getD_take _ _ _ (by simp at hj; omega)]
/-- Some more at the end of a row of the call's own, out of a block that was just made. -/
theorem push_run {P : Program} (w : World) (t ty : TypeId) (base : Nat) (e : TypeId) (z : Value) (bytes : Nat) (ht : P.underlying t = some (.slice e)) (hinfo : (P.info? e).map (fun i => (i.zero, i.size, i.bytes)) = some (some z, 1, bytes))
    (hzs : z.cells.size = 1) (v : Value) (n : Nat) (xs : List Value) (hown : w.ownsRow base e 1 v n xs) (us : List Value) (m : Nat) (hm : us.length = m) (h1 : ∀ u ∈ us, u.oneCell' = true)
    (h63 : n + m ≤ 140737488355328) (hbytes : (n + m) * bytes ≤ 140737488355328) (hbase : base ≤ w.heap.size) :
    ∃ A c w', (Builtin.append_ #[t, t] ty #[v, .slice (some ⟨w.heap.size, 0, none⟩) m m]).run P (w.alloc (.cells us.toArray e)) = .ok (.slice A (n + m) c) w' ∧ w'.ownsRow base e 1 (.slice A (n + m) c) (n + m) (xs ++ us) ∧
      Chg (fun k => v.ownBlock = some k) w w' ∧ ((Value.slice A (n + m) c).ownBlock = v.ownBlock ∨ ∃ g, (Value.slice A (n + m) c).ownBlock = some g ∧ w.heap.size ≤ g) := by
  obtain ⟨v', w', hr, ho, hg, _, hb⟩ := ap_run (P := P) (w.alloc (.cells us.toArray e)) t ty base e z 1 bytes ht hinfo hzs (by decide) v n xs (hown.alloc _) (.slice (some ⟨w.heap.size, 0, none⟩) m m) m us
    (.inr ⟨_, m, rfl, by omega, Nat.le_refl _, by omega, fun j x hx => by
      rw [addr_add, cell_of_row _ _ _ _ _ _ (heap_alloc_last w _), Nat.zero_add]
      simpa using hx⟩) h1 h63 hbytes (by simp; omega)
  have hsh : ∃ A c, v' = .slice A (n + m) c := by
    rcases ho.2 with ⟨rfl, h0⟩ | ⟨g, cap, cur, rfl, _⟩
    · rw [h0]; exact ⟨none, 0, rfl⟩
    · exact ⟨_, cap, rfl⟩
  obtain ⟨A, c, rfl⟩ := hsh
  refine ⟨A, c, w', hr, ho, ((Chg.refl _ w).alloc _).then (Chg.of_grownBy hg) (fun i hi => .inl hi.symm), ?_⟩
  rcases hb with hb | hb
  · exact .inl hb
  · exact .inr ⟨_, hb, by simp⟩
end Go.Proofs.Ytkndnlhlglgmfaa
