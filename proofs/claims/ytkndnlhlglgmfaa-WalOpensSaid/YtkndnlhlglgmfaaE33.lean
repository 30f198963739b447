/-
  A map from sectors to what may be there.
-/
import Derived.Test.YtkndnlhlglgmfaaE25
namespace Go.Proofs.Ytkndnlhlglgmfaa
open Go.RowKit Go.WideElems Go.MapKept Go.ChangeMaps
theorem zero51 (w : World) : (zeroValue 51).run Try.prog w = .ok (.slice none 0 0) w := by
  obtain ⟨i, hi, hz⟩ := Option.map_eq_some_iff.1 (show (Try.prog.info? 51).map (fun i => i.zero) = some (some (.slice none 0 0)) by kernel_rfl)
  simp [zeroValue, typeInfo, hi, hz]
theorem look63 {w : World} {b m : Nat} {C : Int → Option Value} (h : CacheAt w b m C) {i : Int} (hi : I64 i) :
    (Instr.lookup 63 (.map (some b)) (.int .i64 i) false).run Try.prog w = .ok ((C i).getD (.slice none 0 0)) w := by
  obtain ⟨D, hD, hv⟩ := h
  obtain ⟨v, ps, hrun, hr⟩ := hD.lookup K3 Try.underlying63 (zero51 w) (show RV (.slice none 0 0) = some (.held (.slice none 0 0), []) from rfl) (key_mk hi)
  rw [(hv i hi).2] at hr
  have : v = (C i).getD (.slice none 0 0) := by
    unfold RV at hr
    simp only [Option.some.injEq, Prod.mk.injEq] at hr
    cases hc : C i with
    | none => rw [hc] at hr; simp only [asHeld] at hr; exact (DataW.held.inj hr.1)
    | some u => rw [hc] at hr; simp only [asHeld] at hr; exact (DataW.held.inj hr.1)
  rw [this] at hrun
  exact hrun
theorem store63 {w : World} {b m : Nat} {C : Int → Option Value} (h : CacheAt w b m C) (hm : m ≤ 1000000) {i : Int} (hi : I64 i) (v : Value) :
    ∃ w', (Instr.mapUpdate 63 (.map (some b)) (.int .i64 i) v).run Try.prog w = .ok () w' ∧ CacheAt w' b (m + 1) (upd C i (some v)) ∧ Chg (fun k => k = b) w w' := by
  obtain ⟨D, hD, hv⟩ := h
  obtain ⟨w', hrun, h1, h2⟩ := hD.store K3 Try.underlying63 (by unfold maxLen; omega) (key_mk hi) (show RV v = some (.held v, []) from rfl)
  refine ⟨w', hrun, ⟨_, h1, fun j hj => ?_⟩, turned_chg h2⟩
  have hm := hD.isMap
  have hk : WideAt.IsKeyLit (.int .i64 i) := by first | exact trivial | exact ⟨_, _, rfl⟩ | simp [WideAt.IsKeyLit]
  unfold upd
  by_cases hji : j = i
  · subst hji
    rw [if_pos rfl]
    exact ⟨Maps.has_put_same hm hk _, fun z => Maps.atKey_put_same hm hk _ z⟩
  · rw [if_neg hji]
    have hne : (Lit.int .i64 j) ≠ .int .i64 i := fun e => hji (by injection e)
    rw [Maps.has_put_other hne]
    exact ⟨(hv j hj).1, fun z => by rw [Maps.atKey_put_other hne]; exact (hv j hj).2 z⟩
def strV (l : List (List Int)) : List Value := l.map (fun xs => .string (strOfNums xs))
theorem strV_len (l : List (List Int)) : (strV l).length = l.length := by simp [strV]
theorem strV_at {l : List (List Int)} {j : Nat} (h : j < l.length) : (strV l)[j]? = some (.string (strOfNums (l.getD j []))) := by
  simp [strV, List.getElem?_eq_getElem h, List.getD_eq_getElem?_getD]
/-- What may be in the sectors. -/
structure MayAt (w : World) (mb m : Nat) (C : Int → Option Value) (M : Int → Option (List (List Int))) : Prop where
  map : CacheAt w mb m C
  val : ∀ i v, C i = some v → 0 ≤ i ∧ i < 10 ∧ ∃ l, M i = some l ∧ 0 < l.length ∧ l.length ≤ 2 ∧ w.ownsRow 0 9 1 v l.length (strV l)
  non : ∀ i, C i = none → M i = none
  ap : ∀ i j v u g, C i = some v → C j = some u → v.ownBlock = some g → u.ownBlock = some g → i = j
def OwnM (mb : Nat) (C : Int → Option Value) (k : Nat) : Prop := k = mb ∨ ∃ i v, C i = some v ∧ v.ownBlock = some k
section
variable {w w' : World} {mb m : Nat} {C : Int → Option Value} {M : Int → Option (List (List Int))}
theorem MayAt.chg {S : Nat → Prop} (h : MayAt w mb m C M) (hc : Chg S w w') (hS : ∀ j, OwnM mb C j → ¬ S j) : MayAt w' mb m C M :=
  ⟨h.map.chg hc (hS mb (.inl rfl)), fun i v hv => by
    obtain ⟨h1, h2, l, h3, h4, h5, h6⟩ := h.val i v hv
    exact ⟨h1, h2, l, h3, h4, h5, own_chg h6 hc (fun k hk => hS k (.inr ⟨i, v, hv, hk⟩))⟩, h.non, h.ap⟩
theorem MayAt.up (h : MayAt w mb m C M) (hu : Up w w') : MayAt w' mb m C M := h.chg hu (fun _ _ h => h)
theorem MayAt.lt (h : MayAt w mb m C M) (j : Nat) (hj : OwnM mb C j) : j < w.heap.size := by
  rcases hj with rfl | ⟨i, v, hv, hj⟩
  · obtain ⟨es, cl, hb⟩ := h.map.block
    exact (Array.getElem?_eq_some_iff.1 hb).1
  · obtain ⟨_, _, l, _, _, _, h6⟩ := h.val i v hv
    obtain ⟨cu, fu, hg⟩ := own_type h6 j hj
    exact (Array.getElem?_eq_some_iff.1 hg).1
def updM (M : Int → Option (List (List Int))) (i : Int) (l : List (List Int)) : Int → Option (List (List Int)) := fun j => if j = i then some l else M j
/-- A value is stored. -/
theorem MayAt.put (h : MayAt w mb m C M) (hc : Chg (fun k => k = mb) w w') {i : Int} (hi : 0 ≤ i ∧ i < 10) {v : Value} (hm : CacheAt w' mb (m + 1) (upd C i (some v))) {l : List (List Int)} (h1 : 0 < l.length) (h2 : l.length ≤ 2) (hv : w.ownsRow 0 9 1 v l.length (strV l))
    (hne : ∀ j u g, j ≠ i → C j = some u → v.ownBlock = some g → u.ownBlock ≠ some g) : MayAt w' mb (m + 1) (upd C i (some v)) (updM M i l) := by
  obtain ⟨es, cl, hb⟩ := h.map.block
  have hk : ∀ (u : Value) (n : Nat) (us : List Value), w.ownsRow 0 9 1 u n us → w'.ownsRow 0 9 1 u n us := fun u n us hu => own_chg' hu hc (fun k cur fr e hh => by subst e; rw [hb] at hh; cases hh)
  refine ⟨hm, fun j u hu => ?_, fun j hj => ?_, fun j k u x g hu hx hg1 hg2 => ?_⟩
  · unfold upd at hu
    unfold updM
    by_cases e : j = i
    · rw [if_pos e] at hu
      injection hu with hu
      subst hu e
      exact ⟨hi.1, hi.2, l, by rw [if_pos rfl], h1, h2, hk _ _ _ hv⟩
    · rw [if_neg e] at hu
      obtain ⟨a1, a2, l', a3, a4, a5, a6⟩ := h.val j u hu
      exact ⟨a1, a2, l', by rw [if_neg e]; exact a3, a4, a5, hk _ _ _ a6⟩
  · unfold upd at hj
    unfold updM
    by_cases e : j = i
    · rw [if_pos e] at hj; cases hj
    · rw [if_neg e] at hj ⊢; exact h.non j hj
  · unfold upd at hu hx
    by_cases e1 : j = i
    · by_cases e2 : k = i
      · rw [e1, e2]
      · rw [if_pos e1] at hu
        rw [if_neg e2] at hx
        injection hu with hu
        subst hu
        exact absurd hg2 (hne k x g e2 hx hg1)
    · rw [if_neg e1] at hu
      by_cases e2 : k = i
      · rw [if_pos e2] at hx
        injection hx with hx
        subst hx
        exact absurd hg1 (hne j u g e1 hu hg2)
      · rw [if_neg e2] at hx
        exact h.ap j k u x g hu hx hg1 hg2
end
theorem may_new (w : World) : MayAt (w.alloc (.map #[] 0)) w.heap.size 0 (fun _ => none) (fun _ => none) :=
  ⟨cache_new w, fun i v hv => (by cases hv), fun _ _ => rfl, fun _ _ _ _ _ h => by cases h⟩
/-- One string behind a row. -/
theorem push_strV (w : World) (base : Nat) (v : Value) (l : List (List Int)) (hown : w.ownsRow base 9 1 v l.length (strV l)) (xs : List Int) (s : ByteArray) (hs : strOfNums xs = s) (hb : base ≤ w.heap.size) (hl : l.length ≤ 1000) :
    ∃ A c w', (Builtin.append_ #[51, 51] 51 #[v, .slice (some ⟨w.heap.size, 0, none⟩) 1 1]).run Try.prog (w.alloc (.cells #[.string s] 9)) = .ok (.slice A (l ++ [xs]).length c) w' ∧ w'.ownsRow base 9 1 (.slice A (l ++ [xs]).length c) (l ++ [xs]).length (strV (l ++ [xs])) ∧
      Chg (fun j => v.ownBlock = some j) w w' ∧ ((Value.slice A (l ++ [xs]).length c).ownBlock = v.ownBlock ∨ ∃ g, (Value.slice A (l ++ [xs]).length c).ownBlock = some g ∧ w.heap.size ≤ g) := by
  obtain ⟨A, c, w', h1, h2, h3, h4⟩ := push_run (P := Try.prog) w 51 51 base 9 (.string ⟨#[]⟩) 16 Try.underlying51 (by kernel_rfl) rfl v l.length (strV l) hown [.string s] 1 rfl (by simp [Value.oneCell']) (by omega) (by omega) hb
  have hlen : (l ++ [xs]).length = l.length + 1 := by simp
  rw [hlen]
  refine ⟨A, c, w', h1, ?_, h3, h4⟩
  rw [show strV (l ++ [xs]) = strV l ++ [.string s] by simp [strV, hs]]
  exact h2
/-- 's[:1]'. -/
theorem slice_one (a : Option Addr) (n c : Nat) (hc : 1 ≤ c) (W : World) : (Instr.slice 51 (.slice a n c) none (some (.int .i64 1)) none).run Try.prog W = .ok (.slice a 1 c) W := by
  have he : Try.prog.elem 51 = 9 := by unfold Program.elem; rw [Try.underlying51]
  have hs : ∀ W : World, (sizeOf 9).run Try.prog W = .ok 1 W := fun W => by
    obtain ⟨i, hi, h1⟩ := Option.map_eq_some_iff.1 (show (Try.prog.info? 9).map (·.size) = some 1 by kernel_rfl)
    simp [sizeOf, typeInfo, hi, h1]
  rw [run_slice_h W 51 a n c (by rw [he]; exact Try.underlying51) .i64 (1 : Int) (by omega) (by omega), he, hs]
  have : sliced a 0 1 c 1 = .slice a 1 c := by
    unfold sliced
    cases a <;> simp [Addr.add]
  simpa using this
/-- The first of a row is a row. -/
theorem own_first {w : World} {base n : Nat} {a : Option Addr} {c : Nat} {l : List (List Int)} (h : w.ownsRow base 9 1 (.slice a n c) n (strV l)) (hl : l.length = n) (hn : 0 < n) : w.ownsRow base 9 1 (.slice a 1 c) 1 (strV (l.take 1)) := by
  refine ⟨by rw [strV_len, List.length_take]; omega, ?_⟩
  rcases h.2 with ⟨_, h0⟩ | ⟨g, cap, cur, he, h1, h2, h3, h4, h5⟩
  · omega
  · injection he with e1 _ e3
    subst e1 e3
    obtain ⟨h5, h6⟩ := h5
    refine .inr ⟨g, c, cur, rfl, h1, h2, by omega, h4, h5, ?_⟩
    have e : strV (l.take 1) = (strV l).take 1 := by simp [strV, List.map_take]
    rw [e, ← h6, List.take_take]
    congr 1
    omega
end Go.Proofs.Ytkndnlhlglgmfaa
