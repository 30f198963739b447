/-
  Sums of a kind, and of parts one behind the other: tag.sum, walked.
-/
import Derived.Test.YtaahffminoekfaaDoorP1
namespace Go.Proofs.YtaahffminoekfaaDoor
open Go.RowKit
theorem below_then {a b c : World} (h : Below a.heap.size a b) (k : Below b.heap.size b c) : Below a.heap.size a c := h.trans (k.mono h.size)
theorem Laid.below {w w' : World} (h : Laid w) (hb : Below w.heap.size w w') : Laid w' := h.chg (Chg.of_below hb (fun _ => False)) (fun h => h) (fun h => h)
/-- What holds ahead of each round of tag.sum. -/
structure TagSt (w wr : World) (l : List Int) (rv : Value) : Prop where
  dig : Dig wr (w.heap.size + 1) (w.heap.size + 1) l rv
  res : wr.heap[w.heap.size]? = some (.cells ((List.replicate 32 (Value.int .u8 0)).toArray) 25 (0, 0))
  chg : Chg (fun i => w.heap.size < i) w wr
theorem lit32 : (#[Value.int IntKind.u8 0, Value.int IntKind.u8 0, Value.int IntKind.u8 0, Value.int IntKind.u8 0, Value.int IntKind.u8 0, Value.int IntKind.u8 0, Value.int IntKind.u8 0, Value.int IntKind.u8 0,
    Value.int IntKind.u8 0, Value.int IntKind.u8 0, Value.int IntKind.u8 0, Value.int IntKind.u8 0, Value.int IntKind.u8 0, Value.int IntKind.u8 0, Value.int IntKind.u8 0, Value.int IntKind.u8 0,
    Value.int IntKind.u8 0, Value.int IntKind.u8 0, Value.int IntKind.u8 0, Value.int IntKind.u8 0, Value.int IntKind.u8 0, Value.int IntKind.u8 0, Value.int IntKind.u8 0, Value.int IntKind.u8 0,
    Value.int IntKind.u8 0, Value.int IntKind.u8 0, Value.int IntKind.u8 0, Value.int IntKind.u8 0, Value.int IntKind.u8 0, Value.int IntKind.u8 0, Value.int IntKind.u8 0, Value.int IntKind.u8 0]) = (List.replicate 32 (Value.int .u8 0)).toArray := rfl
theorem one_slb (W : World) (x : Int) : SlB (W.alloc (.cells #[.int .u8 x] 5)) (.slice (some ⟨W.heap.size, 0, none⟩) 1 1) [x] := SlB.mk rfl (by omega) (by omega) (fun j hj => by
  rw [cell_of_row _ _ _ _ _ _ (heap_alloc_last W _)]
  match j, hj with
  | 0, _ => rfl
  | j + 1, h => simp at h)
theorem Bytes.cons {x : Int} {l : List Int} (h : 0 ≤ x ∧ x ≤ 255) (k : Bytes l) : Bytes (x :: l) := fun j => by
  cases j with
  | zero => simpa using h
  | succ j => simpa using k j
theorem bytes_flat : ∀ (ls : List (List Int)), (∀ r, r < ls.length → Bytes (ls.getD r [])) → Bytes ls.flatten
  | [], _ => fun j => by simp
  | l :: ls, h => by
    rw [List.flatten_cons]
    exact Bytes.append (by simpa using h 0 (by simp)) (bytes_flat ls fun r hr => by simpa using h (r + 1) (by simpa using hr))
theorem SlBB.bytes {w : World} {v : Value} {ls : List (List Int)} (h : SlBB w v ls) (r : Nat) (hr : r < ls.length) : Bytes (ls.getD r []) := by
  rcases h with ⟨_, rfl⟩ | ⟨_, _, _, _, _, _, h⟩
  · simp at hr
  · exact (h r hr).2.2
theorem SlBB.small {w : World} {v : Value} {ls : List (List Int)} (h : SlBB w v ls) : ls.length ≤ 9223372036854775807 := by
  rcases h with ⟨_, rfl⟩ | ⟨_, _, _, _, h1, h2, _⟩
  · simp
  · unfold maxLen at h2; omega
set_option maxRecDepth 100000 in
set_option maxHeartbeats 2000000 in
theorem tagsum_any (k : Int) (v : Value) (ls : List (List Int)) (w : World) (h : SlBB w v ls) (hk : 0 ≤ k) (hk2 : k ≤ 255) (hlen : ls.flatten.length ≤ 10000000) (hla : Laid w) :
    Calls Tryd.prog 65 #[.int .i64 k, v] w (SumPost (k :: ls.flatten) w) := by
  have hl2 := hla.lt
  have hsh : ∃ A c, v = .slice A ls.length c := by
    rcases h with ⟨rfl, rfl⟩ | ⟨a, c, V, rfl, _⟩
    · exact ⟨_, _, rfl⟩
    · exact ⟨_, _, rfl⟩
  obtain ⟨A, ac, rfl⟩ := hsh
  have hsm := h.small
  have HV := Lib.hid h
  have HLA := Lib.hid hla
  have HLEN := Lib.hid hlen
  clear h hla hlen
  go_enter Tryd.func65, Tryd.ntmps65
  go_wp2_with fail
  obtain ⟨W0, hW0⟩ : ∃ W0, W0 = w.alloc (.cells ((List.replicate 32 (Value.int .u8 0)).toArray) 25) := ⟨_, rfl⟩
  rw [lit32, ← hW0]
  have c0 : Chg (fun i => w.heap.size < i) w W0 := by rw [hW0]; exact (Chg.refl _ w).alloc _
  have hz0 : W0.heap.size = w.heap.size + 1 := by rw [hW0]; simp
  have hr0 : W0.heap[w.heap.size]? = some (.cells ((List.replicate 32 (Value.int .u8 0)).toArray) 25 (0, 0)) := by rw [hW0, heap_alloc_last]
  clear hW0
  have hn := new_any W0 (HLA.out.chg c0 (by omega) (by omega))
  rw [hz0] at hn
  refine hn.mono ?_
  clear hn
  rintro e W1 ⟨rfl, hW1⟩
  have d1 : Dig W1 (w.heap.size + 1) (w.heap.size + 1) [] (.slice none 0 0) := by rw [hW1, ← hz0]; exact dig_new W0
  have c1 : Chg (fun i => w.heap.size < i) w W1 := by rw [hW1]; exact c0.alloc _
  have r1 : W1.heap[w.heap.size]? = some (.cells ((List.replicate 32 (Value.int .u8 0)).toArray) 25 (0, 0)) := by rw [hW1, Below.heap_alloc _ _ _ (by omega)]; exact hr0
  have D1 := Lib.hid d1
  have C1 := Lib.hid c1
  have R1 := Lib.hid r1
  clear hW1 d1 c1 r1 c0 hr0 hz0
  go_wp2_with fail
  have hsz1 : w.heap.size + 1 < W1.heap.size := D1.out.lt
  have c1' : Chg (fun i => w.heap.size < i) w (W1.alloc (.cells #[.int .u8 k] 5)) := C1.out.alloc _
  refine (write_any (w.heap.size + 1) (w.heap.size + 1) [] [k] (.slice none 0 0) _ _ (D1.out.chg ((Chg.refl (fun _ => False) W1).alloc _) (fun h => h) (fun _ _ h => h)) (one_slb W1 k) (fun b hb _ => ⟨(by simp only [Value.blk, Option.some.injEq] at hb; omega), by simp [Value.ownBlock]⟩)
    (Bytes.cons ⟨hk, hk2⟩ (fun j => by simp)) (fun j => by simp) (by simp) (HLA.out.chg c1' (by omega) (by omega)) (by omega)).mono ?_
  rintro e W2 ⟨rv2, rfl, d2, c2, b2⟩
  rw [List.nil_append] at d2
  have c2' : Chg (fun i => i = w.heap.size + 1) (W1.alloc (.cells #[.int .u8 k] 5)) W2 := c2.mono (fun i _ hi => by
    rcases hi with h | h
    · exact h
    · simp [Value.ownBlock] at h)
  have S2 : Hid (TagSt w W2 [k] rv2) := Lib.hid ⟨d2, c2'.heap ((Below.heap_alloc _ _ _ (by omega)).trans R1.out) (by omega), c1'.then c2' (fun i hi => .inl (by omega))⟩
  clear c1' d2 c2 b2 c2' D1 C1 R1
  go_wp2_with fail
  go_loopw [16] (fun i wr => ∃ (j : Nat) (rv : Value), j ≤ ls.length ∧ i = .int .i64 j ∧ TagSt w wr (k :: (ls.take j).flatten) rv) (fun i _ => ls.length - (intOf i).toNat)
  case atStart => exact ⟨0, rv2, by omega, rfl, S2.out⟩
  case round =>
    clear S2
    rename World => wo
    obtain ⟨j, rv, hj, rfl, hs⟩ := hrel
    have HS := Lib.hid hs
    clear hs
    have hbk : Bytes (k :: (ls.take j).flatten) := by
      refine Bytes.cons ⟨hk, hk2⟩ (bytes_flat _ fun r hr => ?_)
      rw [List.length_take] at hr
      have := HV.out.bytes r (by omega)
      rwa [List.getD_eq_getElem?_getD, List.getElem?_take_of_lt (by omega), ← List.getD_eq_getElem?_getD]
    have HBK := Lib.hid hbk
    clear hbk
    by_cases hjl : (j : Int) < ls.length
    · obtain ⟨b, off, cap, V, hv, _, _, hbs, hr⟩ := HV.out.form (by omega)
      obtain ⟨hc, hs, hby⟩ := hr j (by omega)
      have hc' := HS.out.chg.cell hc (by show ¬ w.heap.size < b; omega)
      injection hv with h1 h2 h3
      subst h1 h3
      have hfs := flat_succ ls j (by omega)
      have hfl : (ls.take (j + 1)).flatten.length ≤ 10000000 := by
        have := HLEN.out
        have e := congrArg (fun l => (List.flatten l).length) (List.take_append_drop (j + 1) ls)
        simp only [List.flatten_append, List.length_append] at e
        omega
      obtain ⟨x, hx⟩ : ∃ x, ls.getD j [] = x := ⟨_, rfl⟩
      rw [hx] at hs hby hfs
      rw [hfs, List.length_append] at hfl
      obtain ⟨X, xc, hvk, _⟩ := hs.shape
      rw [hvk] at hc' hs
      have hs' := hs.chg HS.out.chg (fun i h => by omega)
      have HSW := Lib.hid hs
      have HS' := Lib.hid hs'
      have HBY := Lib.hid hby
      have HFS := Lib.hid hfs
      clear h2 hr hc hs hby hfs hx hvk hs'
      have RB : Hid (∀ i, rv.ownBlock = some i → w.heap.size < i) := Lib.hid (fun i hi => by have := (HS.out.dig.row.lt i hi).1; omega)
      go_wp2_with fail
      refine (write_any (w.heap.size + 1) (w.heap.size + 1) _ x rv _ wo HS.out.dig HS'.out (fun i hi hn => by
        have := HSW.out.lt hi hn
        exact ⟨by omega, fun he => by have := RB.out i he; omega⟩) HBY.out HBK.out (by simp only [List.length_cons]; omega) (HLA.out.chg HS.out.chg (by omega) (by omega)) (by omega)).mono ?_
      rintro e W2 ⟨rv2, rfl, d2, c2, b2⟩
      have S2 : Hid (TagSt w W2 (k :: (ls.take (j + 1)).flatten) rv2) := Lib.hid ⟨by rw [HFS.out]; exact d2, c2.heap HS.out.res (by
        rintro (h | h)
        · omega
        · have := RB.out _ h; omega), HS.out.chg.then c2 (fun i hi => .inl (by
        rcases hi with h | h
        · omega
        · exact RB.out _ h))⟩
      clear d2 c2 b2
      go_wp2
      go_roundw
      case rel => exact ⟨j + 1, rv2, by omega, by go_num, S2.out⟩
      case measure => simp [intOf]; omega
    · obtain rfl : j = ls.length := by omega
      rw [List.take_length] at HS HBK
      have hla := HLA.out.chg HS.out.chg (by omega) (by omega)
      have hsm := sum_any (w.heap.size + 1) (w.heap.size + 1) _ rv wo HS.out.dig HBK.out (by have := HLEN.out; simp only [List.length_cons]; omega) hla (by have := HS.out.chg.size; omega)
      have HSM := Lib.hid hsm
      clear hsm hla
      go_wp2_with fail
      refine HSM.out.mono ?_
      rintro e W3 ⟨rfl, b3⟩
      have hr3 : W3.heap[w.heap.size]? = _ := (b3.block _ (Array.getElem?_eq_some_iff.1 HS.out.res).1).trans HS.out.res
      have hsz := u8s_size (hash_size (k :: ls.flatten))
      obtain ⟨hc, hhc⟩ : ∃ hc, (u8s (shaI (k :: ls.flatten))).toArray = hc := ⟨_, rfl⟩
      have hone : hc.all (·.oneCell') = true := by rw [← hhc]; exact all_one (u8s_one _)
      have hold : ((List.replicate 32 (Value.int .u8 0)).toArray).size = hc.size := by rw [← hhc]; simp [u8s, hash_size]
      rw [hhc] at hsz
      unfold hashV
      rw [hhc]
      have H3 := Lib.hid hr3
      have HB3 := Lib.hid b3
      have HSZ := Lib.hid hsz
      have HON := Lib.hid hone
      have HOL := Lib.hid hold
      have HHC := Lib.hid hhc
      clear hr3 b3 hsz hone hold hhc
      go_wp2_with (refine wpList_store_row rfl 25 (.tmp 4) (.tmp 25) rfl w.heap.size hc (by rfl) (by rfl) 25 _ H3.out HSZ.out HOL.out HON.out ?_)
      have hset := setRow_same W3 w.heap.size hc _ 25 (0, 0) H3.out
      refine bodyPost_ret (v := .agg hc) (results_cell_row rfl _ _ w.heap.size 25 hc (0, 0) _ (by rfl) hset Tryd.underlying25 rfl HSZ.out) rfl ?_
      refine ⟨by rw [hashV, HHC.out], ?_⟩
      have g3 := (HS.out.chg.mono (T := fun i => w.heap.size ≤ i) (fun _ _ h => by omega)).then (Chg.of_below HB3.out (fun _ => False)) (fun i hi => hi.elim)
      exact (g3.setRow w.heap.size (.inl (Nat.le_refl _)) hc).below (Nat.le_refl _) (fun _ h => h)
end Go.Proofs.YtaahffminoekfaaDoor
