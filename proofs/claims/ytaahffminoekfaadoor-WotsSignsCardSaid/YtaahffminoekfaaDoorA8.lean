import Derived.Test.YtaahffminoekfaaDoorA7
namespace Go.Proofs.YtaahffminoekfaaDoor
open Go.RowKit
theorem hash_size (l : List Int) : (shaI l).length = 32 := by simp [shaI, hashL]
theorem info25 : (Tryd.prog.info? 25).map (·.size) = some 32 := by kernel_rfl
theorem u8s_size {l : List Int} (h : l.length = 32) : (Tryd.prog.info? 25).map (·.size) = some (u8s l).toArray.size := by
  have : (u8s l).toArray.size = 32 := by simp [u8s, h]
  rw [this]
  exact info25
set_option maxRecDepth 100000 in
set_option maxHeartbeats 1000000 in
/-- sha.Sum. -/
theorem shaSum_any (xs : List Int) (v : Value) (w : World) (hv : SlB w v xs) (hx : Bytes xs) (hlen : xs.length ≤ 100000000) (hla : Laid w) :
    Calls Tryd.prog 22 #[v] w (SumPost xs w) := by
  have h2 := hla.lt
  have HV := Lib.hid hv
  have HX := Lib.hid hx
  have HLA := Lib.hid hla
  clear hv hx hla
  go_enter Tryd.func22, Tryd.ntmps22
  go_wp2_with fail
  obtain ⟨W0, hW0⟩ : ∃ W0, W0 = w.alloc (.cells ((List.replicate 32 (Value.int .u8 0)).toArray) 25) := ⟨_, rfl⟩
  have c0 : Chg (fun _ => False) w W0 := by rw [hW0]; exact (Chg.refl _ w).alloc _
  have hz0 : W0.heap.size = w.heap.size + 1 := by rw [hW0]; simp
  have hn := new_any W0 (HLA.out.chg c0 (fun h => h) (fun h => h))
  have hr0 : W0.heap[w.heap.size]? = some (.cells ((List.replicate 32 (Value.int .u8 0)).toArray) 25 (0, 0)) := by rw [hW0, heap_alloc_last]
  have HN := Lib.hid hn
  have HZ := Lib.hid hz0
  have HR0 := Lib.hid hr0
  have HC0 := Lib.hid c0
  rw [show (#[Value.int IntKind.u8 0, Value.int IntKind.u8 0, Value.int IntKind.u8 0, Value.int IntKind.u8 0, Value.int IntKind.u8 0, Value.int IntKind.u8 0, Value.int IntKind.u8 0, Value.int IntKind.u8 0,
    Value.int IntKind.u8 0, Value.int IntKind.u8 0, Value.int IntKind.u8 0, Value.int IntKind.u8 0, Value.int IntKind.u8 0, Value.int IntKind.u8 0, Value.int IntKind.u8 0, Value.int IntKind.u8 0,
    Value.int IntKind.u8 0, Value.int IntKind.u8 0, Value.int IntKind.u8 0, Value.int IntKind.u8 0, Value.int IntKind.u8 0, Value.int IntKind.u8 0, Value.int IntKind.u8 0, Value.int IntKind.u8 0,
    Value.int IntKind.u8 0, Value.int IntKind.u8 0, Value.int IntKind.u8 0, Value.int IntKind.u8 0, Value.int IntKind.u8 0, Value.int IntKind.u8 0, Value.int IntKind.u8 0, Value.int IntKind.u8 0]) = (List.replicate 32 (Value.int .u8 0)).toArray from rfl, ← hW0]
  clear hn hz0 hr0 c0 hW0
  refine HN.out.mono ?_
  rintro e W1 ⟨rfl, hW1⟩
  have d1 : Dig W1 W0.heap.size W0.heap.size [] (.slice none 0 0) := by rw [hW1]; exact dig_new W0
  have c1 : Chg (fun _ => False) w W1 := by rw [hW1]; exact HC0.out.alloc _
  have hw1 := write_any W0.heap.size W0.heap.size [] xs (.slice none 0 0) v W1 d1 (HV.out.chg c1 (fun _ _ _ h => h) (by decide)) (fun b hb hn => by
      refine ⟨?_, by simp [Value.ownBlock]⟩
      obtain ⟨b', off, c, he, _⟩ := HV.out.form hn
      rw [he] at hb
      injection hb with hb
      have hlt := World.block_lt_of_cell? w ⟨b', off + 0, none⟩ ((he ▸ HV.out).at_ 0 hn)
      have : W0.heap.size = w.heap.size + 1 := HZ.out
      have hlt' : b' < w.heap.size := hlt
      have : b' = b := hb
      omega) HX.out (fun j => by simp) (by simp; omega) (HLA.out.chg c1 (fun h => h) (fun h => h)) (by have := HZ.out; omega)
  have HW := Lib.hid hw1
  have HC1 := Lib.hid c1
  have hr1 : W1.heap[w.heap.size]? = some (.cells ((List.replicate 32 (Value.int .u8 0)).toArray) 25 (0, 0)) := by
    rw [hW1]; exact (Below.heap_alloc _ _ _ (by have := HZ.out; omega)).trans HR0.out
  have HR1 := Lib.hid hr1
  clear d1 c1 hw1 hW1 hr1
  go_wp2_with fail
  refine HW.out.mono ?_
  rintro e W2 ⟨rv2, rfl, d2, c2, b2⟩
  rw [List.nil_append] at d2
  have c2' : Chg (fun k => k = W0.heap.size) W1 W2 := c2.mono (fun i _ hi => by
    rcases hi with h | h
    · exact h
    · simp [Value.ownBlock] at h)
  have c02 : Chg (fun _ => False) w W2 := HC1.out.then c2' (fun i hi => .inr (by have := HZ.out; omega))
  have hs2 := sum_any W0.heap.size W0.heap.size xs rv2 W2 d2 HX.out hlen (HLA.out.chg c02 (fun h => h) (fun h => h)) (by have := c02.size; omega)
  have hr2 := c2'.heap HR1.out (by have := HZ.out; omega)
  have HS2 := Lib.hid hs2
  have HR2 := Lib.hid hr2
  have HC2 := Lib.hid c02
  clear d2 c2 b2 c2' c02 hs2 hr2
  go_wp2_with fail
  refine HS2.out.mono ?_
  rintro e W3 ⟨rfl, b3⟩
  have hr3 : W3.heap[w.heap.size]? = _ := (b3.block _ (Array.getElem?_eq_some_iff.1 HR2.out).1).trans HR2.out
  have hsz := u8s_size (hash_size xs)
  obtain ⟨hc, hhc⟩ : ∃ hc, (u8s (shaI xs)).toArray = hc := ⟨_, rfl⟩
  have hone : hc.all (·.oneCell') = true := by rw [← hhc]; exact all_one (u8s_one _)
  have hold : ((List.replicate 32 (Value.int .u8 0)).toArray).size = hc.size := by rw [← hhc]; simp [u8s, hash_size]
  rw [hhc] at hsz
  unfold hashV
  rw [hhc]
  have H3 := Lib.hid hr3
  have HB3 := Lib.hid b3
  have HSZ := Lib.hid hsz
  have HON := Lib.hid hone
  have HOL := Lib.hid hold
  have HHC := Lib.hid hhc
  clear hr3 b3 hsz hone hold hhc
  go_wp2_with (refine wpList_store_row rfl 25 (.tmp 2) (.tmp 9) rfl w.heap.size hc (by rfl) (by rfl) 25 _ H3.out HSZ.out HOL.out HON.out ?_)
  have hset := setRow_same W3 w.heap.size hc _ 25 (0, 0) H3.out
  refine bodyPost_ret (v := .agg hc) (results_cell_row rfl _ _ w.heap.size 25 hc (0, 0) _ (by rfl) hset Tryd.underlying25 rfl HSZ.out) rfl ?_
  refine ⟨by rw [hashV, HHC.out], ?_⟩
  have g3 := (HC2.out.mono (T := fun i => w.heap.size ≤ i) (fun _ _ h => h.elim)).then (Chg.of_below HB3.out (fun _ => False)) (fun i hi => hi.elim)
  exact (g3.setRow w.heap.size (.inl (Nat.le_refl _)) hc).below (Nat.le_refl _) (fun _ h => h)
end Go.Proofs.YtaahffminoekfaaDoor
