/-
  The last step of a law's row: the call has left all that was there, and said true.
-/
import Derived.Below
import Derived.ChangeSame
import Derived.Carry
import Derived.ProofKit
import Derived.OpenShut
import Derived.KernelRfl
import Derived.Test.YtkndnlhlglgmfaaE2
import Derived.Test.YtkndnlhlglgmfaaRows
import Derived.Deep.DeepHandedRow
import Derived.Lib.LaidTab
import Derived.Deep.Matrix
namespace Go.Proofs.Ytkndnlhlglgmfaa
open Go.RowKit Go.WideShapes Go.ChangeShapes
theorem trodAll_stays {H : Type} {enc : TypeId × Value → H} {P : Program} (hl : laidOutB P = true) {W W' : World} (hb : Below W.heap.size W W') (sp : Nat → Bool) :
    ∀ (ts : List TypeId) (vs : List Value) (ds : List (DataW H)) (ps : List MemPlace), (∀ t ∈ ts, P.readableRec t = true ∧ t < P.types.size) → DataW.TrodAll enc P W 0 (fun _ => true) true ts vs ds ps →
      (∀ x ∈ ps, x.block < W.heap.size) → (∀ x ∈ ps, sp x.block = true) → DataW.TrodAll enc P W' 0 sp true ts vs ds ps
  | [], vs, ds, ps, _, h, _, _ => by
    obtain ⟨rfl, rfl, rfl⟩ := trodAll_nil h
    exact trodAll_mk0
  | t :: ts, vs, ds, ps, hr, h, hlt, hsp => by
    obtain ⟨v, vs', d, ds', p, q, rfl, rfl, rfl, h0, h1⟩ := trodAll_cons h
    refine trodAll_cons_mk ?_ (trodAll_stays hl hb sp ts vs' ds' q (fun t ht => hr t (by simp [ht])) h1 (fun x hx => hlt x (by simp [hx])) (fun x hx => hsp x (by simp [hx])))
    exact WideElems.Trod_stays hl (hr t (by simp)).1 (hr t (by simp)).2 h0 (fun x hx => hb.same (hlt x (by simp [hx]))) (fun x hx => hsp x (by simp [hx]))
theorem post_true {H : Type} {enc : TypeId × Value → H} {P : Program} {f : Func} {s : ChangeSpec} {W W' : World} {args : Array Value} {ds gs : List (DataW H)} {before : List MemPlace} (b : TypeId) (hbool : P.underlying b = some .bool) (hl : laidOutB P = true)
    (hW : DataW.Whole enc P f.params.toList s.vars false W args.toList ds gs before) (hvars : s.vars = []) (hres : f.resultTypes = #[b]) (hfn : s.fn H (ds ++ gs) = { results := [.lit (.bool true)], args := ds })
    (hr : ∀ t ∈ f.params.toList, P.readableRec t = true ∧ t < P.types.size) (hb : Below W.heap.size W W') : s.post enc P f false true false false W args (.bool true) W' := by
  have hW' := hW
  have hW0 := hW
  have hlt : ∀ x ∈ before, x.block < W.heap.size := fun x hx => hW.lt x hx
  obtain ⟨p, q, hA, hV, hpq, _, _⟩ := hW'
  rw [hvars] at hV
  obtain ⟨rfl, rfl⟩ := trodVars_none hV
  have hpp : before = p := by simpa using hpq
  subst hpp
  have again : ∀ sp : Nat → Bool, (∀ x ∈ before, sp x.block = true) → DataW.TrodAll enc P W' 0 sp true f.params.toList args.toList ds before :=
    fun sp hsp => trodAll_stays hl hb sp _ _ _ _ hr hA hlt hsp
  have told : ∀ (b0 : Nat) (sp : Nat → Bool) (hd : Bool), DataW.TrodAll enc P W' b0 sp hd [b] [.bool true] [.lit (.bool true)] [] := fun _ _ _ => trodAll_cons_mk (shut_bool hbool _) trodAll_mk0
  obtain ⟨_, _, _, _, _, hz, hn⟩ := hW
  have key : ∀ sp : Nat → Bool, (∀ x ∈ before, sp x.block = true) → DataW.TrodVars enc P W' sp s.vars (s.fn H (ds ++ [])).vars [] := fun _ _ => by rw [hvars, hfn]; rfl
  have small : ∀ x ∈ before, (fun i => decide (i < W.heap.size)) x.block = true := fun x hx => by simpa using hlt x hx
  have ends : ∀ x ∈ ([] ++ before) ++ ([] : List MemPlace), x ∈ before := fun x hx => by simpa using hx
  refine ⟨ds, [], before, [], before, [], hW0, by rw [hres, hfn]; exact told _ _ _, by rw [hfn]; exact again _ small, key _ small, World.keptBut_mono (fun x hx => ⟨hx, ?_⟩) (hb.frame (· ∈ before)), fun _ => ?_⟩
  · simpa using hx
  · have two := trodAll_append (again (fun _ => true) (fun _ _ => rfl)) (told 0 (fun _ => true) true)
    have whole : DataW.Whole enc P (f.resultTypes.toList ++ f.params.toList) s.vars false W' ((Value.bool true).resultList f.resultTypes.size ++ args.toList) ((s.fn H (ds ++ [])).results ++ (s.fn H (ds ++ [])).args) (s.fn H (ds ++ [])).vars (([] ++ before) ++ []) := by
      refine ⟨[] ++ before, [], ?_, key _ (fun _ _ => rfl), rfl, ?_, fun ha => by cases ha⟩
      · rw [hres, hfn]; exact two
      · intro blk off hp
        have hin := ends _ hp
        rw [hb.frozen (hlt _ hin)]
        exact hz blk off hin
    exact ⟨ok_one hres rfl (okWide_bool_mk hbool _), _, _, _, whole, fun x hx _ => ends x hx⟩

end Go.Proofs.Ytkndnlhlglgmfaa
namespace Go.Proofs.Ytkndnlhlglgmfaa
open Go.ChangeShapes Go.WideShapes Go.ChangeAt Go.RowKit
theorem cells5 : Try.prog.cellsOf 5 = 1 := by kernel_rfl
set_option maxRecDepth 100000 in
theorem open_sl {H : Type} {enc : TypeId × Value → H} {W : World} {base : Nat} {v : Value} {d : DataW H} {p : List MemPlace} (hv : Value.okWide Try.prog W .any base 28 v)
    (h : DataW.Trod enc Try.prog W 0 (fun _ => true) true 28 v d p) : ∃ xs, SlB W v xs ∧ Bytes xs := by
  obtain ⟨a0, len, cap, rfl⟩ := okWide_slice Try.underlying28 hv
  obtain ⟨fuel, hf⟩ := h
  rcases open_ints Try.underlying28 Try.underlying5 cells5 hf with ⟨hcs, hx⟩ | ⟨a, len', cap', zs, hcs, _, hl, hm, hz, hx, hcell, hwz⟩
  · simp [Value.cells] at hcs
    obtain ⟨rfl, rfl, rfl⟩ := hcs
    exact ⟨[], .inl ⟨rfl, rfl, rfl⟩, fun j => by simp⟩
  · simp [Value.cells] at hcs
    obtain ⟨rfl, rfl, rfl⟩ := hcs
    simp at hz
    have hlen : (zs.take len).length = len := by rw [List.length_take]; omega
    refine ⟨zs.take len, .inr ⟨a, cap, by rw [hlen], by rw [u8s_len]; omega, by rw [hlen]; exact hl, by simpa [maxLen] using hm, fun j u hu => ?_⟩, fun j => ?_⟩
    · have hj : j < (zs.take len).length := by have := (List.getElem?_eq_some_iff.1 hu).1; rwa [u8s_len] at this
      rw [u8s_at hj] at hu
      cases hu
      rw [getD_take _ _ _ (by omega)]
      exact hcell j (by omega)
    · by_cases hj : j < len
      · rw [getD_take _ _ _ hj, List.getD_eq_getElem?_getD, List.getElem?_eq_getElem (show j < zs.length by omega)]
        exact bounds_u8 (hwz _ (List.getElem_mem _))
      · rw [List.getD_eq_getElem?_getD, List.getElem?_eq_none (by omega)]; simp
theorem own : ownKnob Try.prog.godebug = none := by kernel_rfl
theorem laidOut : laidOutB Try.prog = true := by kernel_rfl
noncomputable def plainWorld (os : Os) : World := World.holding Try.prog os ⟨#[], #[], []⟩
section
variable {H : Type} {enc : TypeId × Value → H} {W : World} {base b0 : Nat} {sp : Nat → Bool} {held : Bool} {r : Reach} {v : Value} {d : DataW H} {p : List MemPlace}
theorem trod_i64 {P : Program} {t : TypeId} (ht : P.underlying t = some (.int .i64)) {fuel : Nat} {cs : List Value} {x : DataW H × List MemPlace} (h : DataW.trod enc P W base sp held fuel t cs = some x) : ∃ n, cs = [.int .i64 n] ∧ I64 n := by
  obtain ⟨n, rfl, _, hw⟩ := DataW.trod_int ht h
  exact ⟨n, rfl, bounds_i64 hw⟩
set_option maxRecDepth 100000 in
theorem open_i64 (_hv : Value.okWide Try.prog W r b0 3 v) (h : DataW.Trod enc Try.prog W base sp held 3 v d p) : ∃ n, v = .int .i64 n ∧ I64 n := by
  obtain ⟨n, rfl⟩ := okWide_int Try.underlying3 _hv
  obtain ⟨fuel, hf⟩ := h
  obtain ⟨m, hm, hb⟩ := trod_i64 Try.underlying3 hf
  simp [Value.cells] at hm
  subst hm
  exact ⟨n, rfl, hb⟩
end
end Go.Proofs.Ytkndnlhlglgmfaa
