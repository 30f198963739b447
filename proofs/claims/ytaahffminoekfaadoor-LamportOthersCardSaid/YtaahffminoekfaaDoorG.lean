/-
  The last step of a law's row: the call has left all that was there, and said true. What the readings of the arguments and of the tables give. What the readings of the arguments give: arrays of bytes; slices of slices.
-/
import Derived.Below
import Derived.ChangeSame
import Derived.Carry
import Derived.ProofKit
import Derived.OpenShut
import Derived.KernelRfl
import Derived.Test.YtaahffminoekfaaDoorK2
import Derived.Test.YtaahffminoekfaaDoorCards
import Derived.Test.YtaahffminoekfaaDoorTie
import Derived.Deep.DeepHandedRow
import Derived.Lib.LaidTab
import Derived.Deep.Matrix
namespace Go.Proofs.YtaahffminoekfaaDoor
open Go.RowKit Go.WideShapes Go.ChangeShapes
theorem trodAll_stays {H : Type} {enc : TypeId × Value → H} {P : Program} (hl : laidOutB P = true) {W W' : World} (hb : Below W.heap.size W W') (sp : Nat → Bool) :
    ∀ (ts : List TypeId) (vs : List Value) (ds : List (DataW H)) (ps : List MemPlace), (∀ t ∈ ts, P.readableRec t = true ∧ t < P.types.size) → DataW.TrodAll enc P W 0 (fun _ => true) true ts vs ds ps →
      (∀ x ∈ ps, x.block < W.heap.size) → (∀ x ∈ ps, sp x.block = true) → DataW.TrodAll enc P W' 0 sp true ts vs ds ps
  | [], vs, ds, ps, _, h, _, _ => by
    obtain ⟨rfl, rfl, rfl⟩ := trodAll_nil h
    exact trodAll_mk0
  | t :: ts, vs, ds, ps, hr, h, hlt, hsp => by
    obtain ⟨v, vs', d, ds', p, q, rfl, rfl, rfl, h0, h1⟩ := trodAll_cons h
    refine trodAll_cons_mk ?_ (trodAll_stays hl hb sp ts vs' ds' q (fun t ht => hr t (by simp [ht])) h1 (fun x hx => hlt x (by simp [hx])) (fun x hx => hsp x (by simp [hx])))
    exact WideElems.Trod_stays hl (hr t (by simp)).1 (hr t (by simp)).2 h0 (fun x hx => hb.same (hlt x (by simp [hx]))) (fun x hx => hsp x (by simp [hx]))
theorem post_true {H : Type} {enc : TypeId × Value → H} {P : Program} {f : Func} {s : ChangeSpec} {W W' : World} {args : Array Value} {ds gs : List (DataW H)} {before : List MemPlace} (b : TypeId) (hbool : P.underlying b = some .bool) (hl : laidOutB P = true)
    (hW : DataW.Whole enc P f.params.toList s.vars false W args.toList ds gs before) (hvars : s.vars = []) (hres : f.resultTypes = #[b]) (hfn : s.fn H (ds ++ gs) = { results := [.lit (.bool true)], args := ds })
    (hr : ∀ t ∈ f.params.toList, P.readableRec t = true ∧ t < P.types.size) (hb : Below W.heap.size W W') : s.post enc P f false true false false W args (.bool true) W' := by
  have hW' := hW
  have hW0 := hW
  have hlt : ∀ x ∈ before, x.block < W.heap.size := fun x hx => hW.lt x hx
  obtain ⟨p, q, hA, hV, hpq, _, _⟩ := hW'
  rw [hvars] at hV
  obtain ⟨rfl, rfl⟩ := trodVars_none hV
  have hpp : before = p := by simpa using hpq
  subst hpp
  have again : ∀ sp : Nat → Bool, (∀ x ∈ before, sp x.block = true) → DataW.TrodAll enc P W' 0 sp true f.params.toList args.toList ds before :=
    fun sp hsp => trodAll_stays hl hb sp _ _ _ _ hr hA hlt hsp
  have told : ∀ (b0 : Nat) (sp : Nat → Bool) (hd : Bool), DataW.TrodAll enc P W' b0 sp hd [b] [.bool true] [.lit (.bool true)] [] := fun _ _ _ => trodAll_cons_mk (shut_bool hbool _) trodAll_mk0
  obtain ⟨_, _, _, _, _, hz, hn⟩ := hW
  have key : ∀ sp : Nat → Bool, (∀ x ∈ before, sp x.block = true) → DataW.TrodVars enc P W' sp s.vars (s.fn H (ds ++ [])).vars [] := fun _ _ => by rw [hvars, hfn]; rfl
  have small : ∀ x ∈ before, (fun i => decide (i < W.heap.size)) x.block = true := fun x hx => by simpa using hlt x hx
  have ends : ∀ x ∈ ([] ++ before) ++ ([] : List MemPlace), x ∈ before := fun x hx => by simpa using hx
  refine ⟨ds, [], before, [], before, [], hW0, by rw [hres, hfn]; exact told _ _ _, by rw [hfn]; exact again _ small, key _ small, World.keptBut_mono (fun x hx => ⟨hx, ?_⟩) (hb.frame (· ∈ before)), fun _ => ?_⟩
  · simpa using hx
  · have two := trodAll_append (again (fun _ => true) (fun _ _ => rfl)) (told 0 (fun _ => true) true)
    have whole : DataW.Whole enc P (f.resultTypes.toList ++ f.params.toList) s.vars false W' ((Value.bool true).resultList f.resultTypes.size ++ args.toList) ((s.fn H (ds ++ [])).results ++ (s.fn H (ds ++ [])).args) (s.fn H (ds ++ [])).vars (([] ++ before) ++ []) := by
      refine ⟨[] ++ before, [], ?_, key _ (fun _ _ => rfl), rfl, ?_, fun ha => by cases ha⟩
      · rw [hres, hfn]; exact two
      · intro blk off hp
        have hin := ends _ hp
        rw [hb.frozen (hlt _ hin)]
        exact hz blk off hin
    exact ⟨ok_one hres rfl (okWide_bool_mk hbool _), _, _, _, whole, fun x hx _ => ends x hx⟩
end Go.Proofs.YtaahffminoekfaaDoor
namespace Go.Proofs.YtaahffminoekfaaDoor
open Go.ChangeShapes Go.WideShapes Go.ChangeAt Go.RowKit
theorem cells5 : Tryd.prog.cellsOf 5 = 1 := by kernel_rfl
set_option maxRecDepth 100000 in
theorem open_sl {H : Type} {enc : TypeId × Value → H} {W : World} {base : Nat} {v : Value} {d : DataW H} {p : List MemPlace} (hv : Value.okWide Tryd.prog W .any base 22 v)
    (h : DataW.Trod enc Tryd.prog W 0 (fun _ => true) true 22 v d p) : ∃ xs, SlB W v xs ∧ Bytes xs := by
  obtain ⟨a0, len, cap, rfl⟩ := okWide_slice Tryd.underlying22 hv
  obtain ⟨fuel, hf⟩ := h
  rcases open_ints Tryd.underlying22 Tryd.underlying5 cells5 hf with ⟨hcs, hx⟩ | ⟨a, len', cap', zs, hcs, _, hl, hm, hz, hx, hcell, hwz⟩
  · simp [Value.cells] at hcs
    obtain ⟨rfl, rfl, rfl⟩ := hcs
    exact ⟨[], .inl ⟨rfl, rfl, rfl⟩, fun j => by simp⟩
  · simp [Value.cells] at hcs
    obtain ⟨rfl, rfl, rfl⟩ := hcs
    simp at hz
    have hlen : (zs.take len).length = len := by rw [List.length_take]; omega
    refine ⟨zs.take len, .inr ⟨a, cap, by rw [hlen], by rw [u8s_len]; omega, by rw [hlen]; exact hl, by simpa [maxLen] using hm, fun j u hu => ?_⟩, fun j => ?_⟩
    · have hj : j < (zs.take len).length := by have := (List.getElem?_eq_some_iff.1 hu).1; rwa [u8s_len] at this
      rw [u8s_at hj] at hu
      cases hu
      rw [getD_take _ _ _ (by omega)]
      exact hcell j (by omega)
    · by_cases hj : j < len
      · rw [getD_take _ _ _ hj, List.getD_eq_getElem?_getD, List.getElem?_eq_getElem (show j < zs.length by omega)]
        exact bounds_u8 (hwz _ (List.getElem_mem _))
      · rw [List.getD_eq_getElem?_getD, List.getElem?_eq_none (by omega)]; simp
theorem own : ownKnob Tryd.prog.godebug = none := by kernel_rfl
theorem laidOut : laidOutB Tryd.prog = true := by kernel_rfl
theorem gBeg : Tryd.prog.globalNamed "syngraph/sha.begin" = some 0 := by kernel_rfl
theorem gTab : Tryd.prog.globalNamed "syngraph/sha.table" = some 1 := by kernel_rfl
theorem gBegT : (Tryd.prog.globals[0]?).map (·.type) = some 84 := by kernel_rfl
theorem gTabT : (Tryd.prog.globals[1]?).map (·.type) = some 104 := by kernel_rfl
theorem cells84 : Tryd.prog.cellsOf 84 = 8 := by kernel_rfl
theorem cells104 : Tryd.prog.cellsOf 104 = 64 := by kernel_rfl
theorem cells71 : Tryd.prog.cellsOf 71 = 1 := by kernel_rfl
def beginI : List Int := [1779033703, 3144134277, 1013904242, 2773480762, 1359893119, 2600822924, 528734635, 1541459225]
theorem laid_tail {P : Program} {x : String × DataW Unit} {rest : List (String × DataW Unit)} {W : World} (h : laidMet P (x :: rest) W) : laidMet P rest W := by
  obtain ⟨ps, ⟨g', t', cs, fuel, p, q, hg', ht', hvar, hd, hq, rfl⟩, hn, hall⟩ := h
  exact ⟨q, hq, (List.nodup_append.1 hn).2.1, fun b off hb => hall b off (by simp [hb])⟩
theorem laid_of {W : World} (h : laidMetH Tryd.prog Rows.shaSumsRow.laid W) : Laid W := by
  have h1 : Lib.TabIs Tryd.prog W "syngraph/sha.begin" .u32 beginI := Lib.tabIs_of_head (rest := [("syngraph/sha.table", Rows.laid_syngraph_sha_table)]) gBeg gBegT Tryd.underlying84 Tryd.underlying71 cells71 cells84 h
  have h2 : Lib.TabIs Tryd.prog W "syngraph/sha.table" .u32 tableI := Lib.tabIs_of_head (rest := []) gTab gTabT Tryd.underlying104 Tryd.underlying71 cells71 cells104 (laid_tail h)
  refine ⟨fun j hj => ?_, fun j hj => ?_⟩
  · exact h2.cell gTab j hj
  · rw [h1.cell gBeg j hj]
    match j, hj with
    | 0, _ | 1, _ | 2, _ | 3, _ | 4, _ | 5, _ | 6, _ | 7, _ => rfl
def setRow (zs : List Int) : Obj → Obj
  | .cells _ t frozen => .cells (zs.map (Value.int .u32)).toArray t frozen
  | o => o
/-- A world for the witness: the settled one, the tables holding what their initialisers lay. -/
noncomputable def laidWorld (os : Os) : World :=
  { World.holding Tryd.prog os ⟨#[], #[], []⟩ with heap := ((World.holding Tryd.prog os ⟨#[], #[], []⟩).heap.modify 0 (setRow beginI)).modify 1 (setRow tableI) }
end Go.Proofs.YtaahffminoekfaaDoor
namespace Go.Proofs.YtaahffminoekfaaDoor
open Go.ChangeShapes Go.WideShapes Go.ChangeAt Go.RowKit
section
variable {H : Type} {enc : TypeId × Value → H} {P : Program} {W : World} {base : Nat} {sp : Nat → Bool} {held : Bool}
theorem mapM_u8 {e : TypeId} (he : P.underlying e = some (.int .u8)) {m : Nat} {cs : List Value} : ∀ (L : List Nat) (xs : List (DataW H × List MemPlace)),
    L.mapM (fun i => DataW.trod enc P W base sp held m e ((cs.drop (i * 1)).take 1)) = some xs → ∀ i ∈ L, ∃ a, (cs.drop i).take 1 = [.int .u8 a] ∧ 0 ≤ a ∧ a ≤ 255
  | [], _, _ => fun _ h => by simp at h
  | i :: L, xs, h => by
    rw [List.mapM_cons] at h
    simp only [bind, Option.bind_eq_some_iff, pure, Option.some.injEq] at h
    obtain ⟨y, hy, ys, hys, rfl⟩ := h
    obtain ⟨a, ea, rfl, wa⟩ := DataW.trod_int he hy
    intro j hj
    rcases List.mem_cons.1 hj with rfl | hj
    · exact ⟨a, by simpa using ea, bounds_u8 wa⟩
    · exact mapM_u8 he L ys hys j hj
/-- An array of bytes that came in. -/
theorem open_bytes {t e : TypeId} {n : Nat} (ht : P.underlying t = some (.array n e)) (he : P.underlying e = some (.int .u8)) (hc : P.cellsOf e = 1) (hct : P.cellsOf t = n) {r : Reach} {b0 : Nat} {v : Value} (hv : Value.okWide P W r b0 t v) {d : DataW H} {ps : List MemPlace}
    (h : DataW.Trod enc P W base sp held t v d ps) : ∃ xs, v = .agg (u8s xs).toArray ∧ xs.length = n ∧ Bytes xs := by
  simp only [Value.okWide, ht] at hv
  obtain ⟨cs, rfl, hsz, _⟩ := hv
  rw [hct] at hsz
  obtain ⟨fuel, hf⟩ := h
  cases fuel with
  | zero => simp [DataW.trod] at hf
  | succ m =>
    rw [DataW.trod_step] at hf
    unfold DataW.trodStep at hf
    simp only [ht, Value.cells, hc] at hf
    rw [if_pos (by rw [hct]; simpa using hsz)] at hf
    simp only [Option.map_eq_some_iff] at hf
    obtain ⟨ys, hy, _⟩ := hf
    have each := mapM_u8 he _ ys hy
    have hat : ∀ i, i < n → ∃ a, cs.toList[i]? = some (.int .u8 a) ∧ 0 ≤ a ∧ a ≤ 255 := fun i hi => by
      obtain ⟨a, ha, hb⟩ := each i (List.mem_range.2 hi)
      refine ⟨a, ?_, hb⟩
      have : ((cs.toList.drop i).take 1)[0]? = some (Value.int .u8 a) := by rw [ha]; rfl
      simpa [List.getElem?_take, List.getElem?_drop] using this
    have hl : cs.toList.length = n := by simpa using hsz
    refine ⟨cs.toList.map intOf, ?_, by simpa using hsz, fun j => ?_⟩
    · congr 1
      apply Array.ext'
      apply List.ext_getElem?
      intro i
      by_cases hi : i < n
      · obtain ⟨a, ha, _⟩ := hat i hi
        simp only [u8s, List.map_map, List.getElem?_map, ha]
        rfl
      · rw [List.getElem?_eq_none (by omega), List.getElem?_eq_none (by simp [u8s]; omega)]
    · rw [List.getD_eq_getElem?_getD, List.getElem?_map]
      by_cases hi : j < n
      · obtain ⟨a, ha, hb⟩ := hat j hi
        rw [ha]
        exact hb
      · rw [List.getElem?_eq_none (by omega)]
        simp
end
set_option maxRecDepth 100000
theorem cells25 : Tryd.prog.cellsOf 25 = 32 := by kernel_rfl
theorem open_hash {H : Type} {enc : TypeId × Value → H} {W : World} {base b0 : Nat} {sp : Nat → Bool} {held : Bool} {r : Reach} {v : Value} {d : DataW H} {p : List MemPlace} (hv : Value.okWide Tryd.prog W r b0 25 v)
    (h : DataW.Trod enc Tryd.prog W base sp held 25 v d p) : ∃ xs, v = hashV xs ∧ xs.length = 32 ∧ Bytes xs :=
  open_bytes Tryd.underlying25 Tryd.underlying5 cells5 cells25 hv h
end Go.Proofs.YtaahffminoekfaaDoor
