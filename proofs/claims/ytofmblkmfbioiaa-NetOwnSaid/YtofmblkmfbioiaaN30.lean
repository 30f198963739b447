/-
  slices.DeleteFunc, walked.
-/
import Derived.Test.YtofmblkmfbioiaaN29
namespace Go.Proofs.Ytofmblkmfbioiaa
open Go.RowKit
def qz (a b : Int) (z : LetD) : Bool := keepB a b z.1
theorem Mid.start {W : World} {base g c : Nat} {zs : List LetD} {q : LetD → Bool} (h : W.ownsRow base 29 3 (.slice (some ⟨g, 0, none⟩) zs.length c) zs.length (rowP zs)) (k : Nat) (hk : k < zs.length) (hq : q zs[k] = false) (ha : ∀ j (hj : j < zs.length), j < k → q zs[j] = true) : Mid W base g c zs q k (k + 1) (rowP zs) := by
  have e : (zs.take (k + 1)).filter q = zs.take k := by
    rw [filter_take_succ zs q k hk, hq, if_neg (by decide), List.append_nil]
    apply List.filter_eq_self.2
    intro z hz
    obtain ⟨j, hj, rfl⟩ := List.mem_iff_getElem.1 hz
    rw [List.length_take] at hj
    rw [List.getElem_take]
    exact ha j (by omega) (by omega)
  refine ⟨h, by omega, by omega, by rw [e, List.length_take]; omega, ?_, rfl⟩
  rw [e]
  have : rowP zs = rowP (zs.take k) ++ rowP (zs.drop k) := by rw [← rowP_app, List.take_append_drop]
  have hl : (rowP (zs.take k)).length = 3 * k := by rw [rowP_len, List.length_take]; omega
  rw [this, List.take_append, hl, Nat.sub_self, List.take_zero, List.append_nil, List.take_of_length_le (by omega)]
theorem Mid.up {W W' : World} {base g c : Nat} {zs : List LetD} {q : LetD → Bool} {i j : Nat} {us : List Value} (h : Mid W base g c zs q i j us) (hu : Up W W') : Mid W' base g c zs q i j us :=
  ⟨own_chg h.row hu (fun _ _ h => h), h.lt, h.le, h.len, h.head, h.tail⟩
theorem Mid.there {W : World} {base g c : Nat} {zs : List LetD} {q : LetD → Bool} {i j : Nat} {us : List Value} (h : Mid W base g c zs q i j us) (k : Nat) (hk : k < 3 * zs.length) : ∃ v, W.cell? ⟨g, k, none⟩ = some v := by
  have hl : k < us.length := by rw [h.row.1]; omega
  have := World.ownsRow.cells h.row rfl k _ (List.getElem?_eq_getElem hl)
  rw [addr_add, Nat.zero_add] at this
  exact ⟨_, this⟩
theorem Mid.pre {W : World} {base g c : Nat} {zs : List LetD} {q : LetD → Bool} {i j : Nat} {us : List Value} (h : Mid W base g c zs q i j us) : W.ownsRow base 29 3 (.slice (some ⟨g, 0, none⟩) i c) i (rowP ((zs.take j).filter q)) := by
  have hlt := h.lt
  have hle := h.le
  rcases h.row.2 with ⟨h0, _⟩ | ⟨g', cap, cur, he, hb, hg, h1, h2, h3, h4⟩
  · cases h0
  · injection he with e1 _ e3
    injection e1 with e1
    injection e1 with e1
    subst e1 e3
    refine ⟨by rw [rowP_len, h.len]; omega, .inr ⟨g, c, cur, rfl, hb, hg, by omega, h2, h3, ?_⟩⟩
    rw [← h.head, ← h4, List.take_take, show min (3 * i) (zs.length * 3) = i * 3 by omega]
theorem run_clear_m (w : World) (ty : TypeId) (b o m c : Nat) (hm : 0 < m) (hc : ∀ j, j < m * 3 → (w.cell? ⟨b, o + j, none⟩).isSome = true) (hf : ∀ j, j < m * 3 → w.frozen? ⟨b, o + j, none⟩ = false) :
    (Builtin.clear_ #[41] ty #[.slice (some ⟨b, o, none⟩) m c]).run Try.prog w = .ok (.tuple #[]) (w.setCells b o (Builtin.zeroCells (#[.int .i64 0, .int .i64 0, .slice none 0 0] : Array Value) m).toList) := by
  obtain ⟨m', rfl⟩ : ∃ m', m = m' + 1 := ⟨m - 1, by omega⟩
  have hlen : (Builtin.zeroCells (#[.int .i64 0, .int .i64 0, .slice none 0 0] : Array Value) (m' + 1)).toList.length = (m' + 1) * 3 := by simp [Builtin.zeroCells]
  have hst := run_storeCells_cells (P := Try.prog) b o (Builtin.zeroCells (#[.int .i64 0, .int .i64 0, .slice none 0 0] : Array Value) (m' + 1)).toList 0 w (fun j hj => by simpa using hc j (by rw [hlen] at hj; exact hj)) (fun j hj => by simpa using hf j (by rw [hlen] at hj; exact hj)) (by
    intro v hv
    simp only [Builtin.zeroCells, Array.toList_map, List.mem_map] at hv
    obtain ⟨i, _, rfl⟩ := hv
    have h3 : i % 3 = 0 ∨ i % 3 = 1 ∨ i % 3 = 2 := by omega
    rcases h3 with h3 | h3 | h3 <;> simp [h3] <;> rfl)
  simp only [Nat.add_zero] at hst
  have hz : ∀ w, (zeroValue 29).run Try.prog w = .ok (.agg #[.int .i64 0, .int .i64 0, .slice none 0 0]) w := fun w => by
    obtain ⟨i, hi, hzz⟩ := Option.map_eq_some_iff.1 info29z
    simp only [Prod.mk.injEq] at hzz
    simp [zeroValue, typeInfo, hi, hzz.1]
  simp [Builtin.clear_, run_underlying Try.underlying41, hz, Value.cells, hst]
set_option maxRecDepth 100000 in
set_option maxHeartbeats 4000000 in
theorem deleteFunc_any (w : World) (a b : Int) (ga gb : Nat) (ha : w.heap[ga]? = some (.cells #[.int .i64 a] 3 (0, 0))) (hb : w.heap[gb]? = some (.cells #[.int .i64 b] 3 (0, 0))) (base : Nat) (v : Value) (zs : List LetD) (hc : CopZ w base v zs) (hn : zs.length ≤ 1024) :
    Calls Try.prog 31 #[v, (.func (.func 32) #[] #[.pointer (some ⟨ga, 0, none⟩), .pointer (some ⟨gb, 0, none⟩)])] w (fun e w' => ∃ v', e = .returned v' ∧ CopZ w' base v' (zs.filter (qz a b)) ∧ Chg (fun i => v.ownBlock = some i) w w') := by
  obtain ⟨Aa, ca, rfl⟩ := own_shape hc.1
  have hidx := index_any w a b ga gb ha hb base _ _ _ hc.r (by simpa using hn)
  have HIDX := Lib.hid hidx
  have HC := Lib.hid hc
  have HA := Lib.hid ha
  have HB := Lib.hid hb
  clear hc ha hb hidx
  go_enter Try.func31, Try.ntmps31
  go_wp2_with fail
  refine HIDX.out.mono ?_
  rintro e W1 ⟨hb1, hcase⟩
  have hu1 := up_below hb1
  rcases hcase with ⟨rfl, hall⟩ | ⟨k0, rfl, hk0, hq0, hall⟩
  · have HU1 := Lib.hid hu1
    have HALL := Lib.hid hall
    clear hall hu1 hb1 HIDX
    go_wp2_with fail
    go_ret
    have e1 : zs.filter (qz a b) = zs := by
      apply List.filter_eq_self.2
      intro z hz
      obtain ⟨j, hj, rfl⟩ := List.mem_iff_getElem.1 hz
      have := HALL.out j (by simpa using hj)
      simpa [qz, List.getD_eq_getElem?_getD, List.getElem?_map, List.getElem?_eq_getElem hj] using this
    rw [e1]
    exact ⟨_, rfl, ⟨own_chg HC.out.1 HU1.out (fun _ _ h => h), fun z hz => own_chg (HC.out.2 z hz) HU1.out (fun _ _ h => h)⟩, HU1.out.mono (fun _ _ h => h.elim)⟩
  · rw [List.length_map] at hk0
    obtain ⟨g, rfl⟩ : ∃ g, Aa = some ⟨g, 0, none⟩ := by
      rcases HC.out.1.2 with ⟨_, hz⟩ | ⟨g, cap, cur, he, _⟩
      · omega
      · injection he with e1; exact ⟨g, e1⟩
    have hcc : zs.length ≤ ca ∧ ca ≤ 9223372036854775807 := by
      rcases HC.out.1.2 with ⟨h0, _⟩ | ⟨g', cap, cur, he, _, _, h1, h2, _⟩
      · cases h0
      · injection he with _ _ e3
        subst e3
        exact ⟨h1, by simpa [maxLen] using h2⟩
    obtain ⟨hc1, hc2⟩ := hcc
    have hm : Mid W1 base g ca zs (qz a b) k0 (k0 + 1) (rowP zs) := Mid.start (own_chg HC.out.1 hu1 (fun _ _ h => h)) k0 hk0 (by simpa [qz, List.getD_eq_getElem?_getD, List.getElem?_map, List.getElem?_eq_getElem hk0] using hq0)
      (fun j hj hjk => by simpa [qz, List.getD_eq_getElem?_getD, List.getElem?_map, List.getElem?_eq_getElem hj] using hall j hjk)
    have HM := Lib.hid hm
    have HU1 := Lib.hid hu1
    have hne : ga ≠ g ∧ gb ≠ g := by
      obtain ⟨c, f, hh⟩ := own_type HC.out.1 g rfl
      refine ⟨fun e => ?_, fun e => ?_⟩
      · subst e; rw [HA.out] at hh; cases hh
      · subst e; rw [HB.out] at hh; cases hh
    have HNE := Lib.hid hne
    have h5 := row_not5 HC.out.1
    have H5 := Lib.hid h5
    clear hm hu1 hall hq0 hb1 HIDX hne h5
    have hki : ((k0 : Int) == -1) = false := by rw [beq_eq_false_iff_ne]; omega
    go_wp2_with fail
    go_loopw [5, 6] (fun ti tj wr => ∃ (i j : Nat) (us : List Value), ti = .int .i64 i ∧ tj = .int .i64 j ∧ Mid wr base g ca zs (qz a b) i j us ∧ Chg (fun x => x = g) w wr) (fun _ tj _ => zs.length - (intOf tj).toNat)
    case atStart => exact ⟨k0, k0 + 1, rowP zs, rfl, by go_num, HM.out, HU1.out.mono (fun _ _ h => h.elim)⟩
    case round =>
      rename World => wr
      obtain ⟨i, j, us, rfl, rfl, hm, hch⟩ := hrel
      have hij := hm.lt
      have hjn := hm.le
      by_cases hj2 : (j : Int) < zs.length
      · have hjj : j < zs.length := by omega
        obtain ⟨r0, r1, r2⟩ := hm.cells hjj
        have hmem := List.getElem_mem hjj
        have hdat := HC.out.2 _ hmem
        obtain ⟨z, hze⟩ : ∃ z, zs[j] = z := ⟨_, rfl⟩
        rw [hze] at r0 r1 r2 hdat
        obtain ⟨⟨f, t, xs⟩, dz⟩ := z
        dsimp only at r0 r1 r2 hdat
        obtain ⟨A3, c3, rfl⟩ := own_shape hdat
        obtain ⟨W4, hW4⟩ : ∃ W, W = wr.alloc (.cells #[.int .i64 f, .int .i64 t, .slice A3 xs.length c3] 29) := ⟨_, rfl⟩
        have hu4 : Up wr W4 := by rw [hW4]; exact (Chg.refl _ wr).alloc _
        have hl4 : W4.heap[wr.heap.size]? = some (.cells #[.int .i64 f, .int .i64 t, .slice A3 xs.length c3] 29 (0, 0)) := by rw [hW4]; exact heap_alloc_last _ _
        have HG := Lib.hid (gone_any W4 a b f t A3 xs.length c3 ga gb (hu4.heap (hch.heap HA.out HNE.out.1) (fun h => h)) (hu4.heap (hch.heap HB.out HNE.out.2) (fun h => h)))
        have HM1 := Lib.hid hm
        have HCH := Lib.hid hch
        have HU4 := Lib.hid hu4
        have HL4 := Lib.hid hl4
        have HW4 := Lib.hid hW4
        have HZE := Lib.hid hze
        clear hm hch hmem hdat hze hu4 hl4 hW4
        cases hbt : betI a b f t
        · rw [hbt] at HG
          simp only [Bool.not_false] at HG
          have HBT := Lib.hid hbt
          clear hbt
          go_wp2_with fail
          rw [← HW4.out]
          refine HG.out.mono ?_
          rintro e W5 ⟨rfl, hb5⟩
          have HU5 := Lib.hid (HU4.out.trans (up_below hb5))
          clear hb5 r0 r1 r2
          go_wp2_with fail
          exact ⟨⟨i, j + 1, us, rfl, by go_num, (HM1.out.up HU5.out).skip hjj (by rw [HZE.out]; exact HBT.out), HCH.out.then HU5.out (fun _ h => h.elim)⟩, by simp [intOf]; omega⟩
        · rw [hbt] at HG
          simp only [Bool.not_true] at HG
          have HBT := Lib.hid hbt
          clear hbt
          go_wp2_with fail
          rw [← HW4.out]
          refine HG.out.mono ?_
          rintro e W5 ⟨rfl, hb5⟩
          have hu5 := up_below hb5
          have hl5 := hu5.heap HL4.out (fun h => h)
          have hm5 := HM1.out.up (HU4.out.trans hu5)
          have b0 := cell_of_row W5 wr.heap.size 0 _ _ _ hl5
          have b1 := cell_of_row W5 wr.heap.size 1 _ _ _ hl5
          have b2 := cell_of_row W5 wr.heap.size 2 _ _ _ hl5
          obtain ⟨e0, k0'⟩ := hm5.there (i * 3) (by omega)
          obtain ⟨e1, k1'⟩ := hm5.there (i * 3 + 1) (by omega)
          obtain ⟨e2, k2'⟩ := hm5.there (i * 3 + 2) (by omega)
          have f0 := World.ownsRow.frozenAt hm5.row (i * 3)
          have f1 := World.ownsRow.frozenAt hm5.row (i * 3 + 1)
          have f2 := World.ownsRow.frozenAt hm5.row (i * 3 + 2)
          have HM5 := Lib.hid hm5
          have HU5 := Lib.hid (HU4.out.trans hu5)
          clear hb5 hu5 hl5 hm5 r0 r1 r2
          go_wp2_with fail
          have hk := HM5.out.keep hjj (by rw [HZE.out]; exact HBT.out)
          rw [HZE.out] at hk
          exact ⟨⟨i + 1, j + 1, _, by go_num, by go_num, hk, (((HCH.out.then HU5.out (fun _ h => h.elim)).setCell ⟨g, i * 3, none⟩ (.inl rfl) _).setCell ⟨g, i * 3 + 1, none⟩ (.inl rfl) _).setCell ⟨g, i * 3 + 2, none⟩ (.inl rfl) _⟩, by simp [intOf]; omega⟩
      · obtain rfl : j = zs.length := by omega
        have hpre := hm.pre
        rw [List.take_length] at hpre
        have hil := hm.len
        rw [List.take_length] at hil
        have hthere := fun q (hq : q < 3 * zs.length) => hm.there q hq
        have hfz := fun q => World.ownsRow.frozenAt hm.row q
        have hclr := run_clear_m wr 0 g (i * 3) (zs.length - i) (ca - i) (by omega) (fun q hq => by obtain ⟨u, hu⟩ := hthere (i * 3 + q) (by omega); rw [hu]; rfl) (fun q hq => hfz _)
        obtain ⟨W9, hW9⟩ : ∃ W, W = wr.setCells g (i * 3) (Builtin.zeroCells (#[.int .i64 0, .int .i64 0, .slice none 0 0] : Array Value) (zs.length - i)).toList := ⟨_, rfl⟩
        rw [← hW9] at hclr
        have hown9 : W9.ownsRow base 29 3 (.slice (some ⟨g, 0, none⟩) i ca) i (rowP (zs.filter (qz a b))) := by rw [hW9]; exact own_tail _ (i * 3) wr hpre (Nat.le_refl _)
        have hc9 : Chg (fun x => x = g) w W9 := by rw [hW9]; exact Chg.setCells (S := fun x => x = g) g (.inl rfl) _ (i * 3) _ hch
        have HIL := Lib.hid hil
        have HOWN9 := Lib.hid hown9
        have HC9 := Lib.hid hc9
        clear hpre hil hthere hfz hW9 hown9 hc9 hm hch
        go_wp2_with fail
        go_ret
        exact ⟨_, rfl, ⟨by rw [HIL.out]; exact HOWN9.out, fun z hz => dat_own (HC.out.2 z (List.mem_filter.1 hz).1) HC9.out (fun k cur fr hk => H5.out k cur fr (by rw [hk]; rfl))⟩, HC9.out.mono (fun k _ hk => by rw [hk]; rfl)⟩
end Go.Proofs.Ytofmblkmfbioiaa
