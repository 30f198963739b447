/-
  The letters to somebody: the iterator, walked.
-/
import Derived.Test.YtofmblkmfbioiaaN33
namespace Go.Proofs.Ytofmblkmfbioiaa
open Go.RowKit Go.Shelf
attribute [local go_sem] Oper.semAt_some
/-- A letter that is handed on: its place, and where its bytes lie. -/
abbrev Hand := Nat × Value
def handV (ls : List Let) (x : Hand) : Array Value := #[.int .i64 (x.1 : Int), .agg #[.int .i64 (ls.getD x.1 default).1, .int .i64 (ls.getD x.1 default).2.1, x.2]]
def toB (ls : List Let) (who : Int) (k : Nat) : Bool := (ls.getD k default).2.1 == who
/-- The places of the letters to somebody. -/
def toL (ls : List Let) (who : Int) (n : Nat) : List Nat := (List.range n).filter (toB ls who)
theorem toL_succ (ls : List Let) (who : Int) (n : Nat) : toL ls who (n + 1) = toL ls who n ++ if toB ls who n = true then [n] else [] := by
  unfold toL
  rw [List.range_succ, List.filter_append]
  congr 1
  by_cases h : toB ls who n = true
  · rw [if_pos h, List.filter_cons, if_pos h]; rfl
  · rw [if_neg h, List.filter_cons, if_neg h]; rfl
theorem toL_pre (ls : List Let) (who : Int) (n m : Nat) (h : n ≤ m) : toL ls who n <+: toL ls who m := by
  obtain ⟨d, rfl⟩ := Nat.exists_eq_add_of_le h
  induction d with
  | zero => exact List.prefix_refl _
  | succ d ih =>
    rw [← Nat.add_assoc, toL_succ]
    exact (ih (by omega)).trans (List.prefix_append _ _)
/-- What holds of a letter when it is handed on. -/
def HandOk (ls : List Let) (who : Int) (D : Value → Let → World → Prop) (pre : List Hand) (x : Hand) (W : World) : Prop := x.1 < ls.length ∧ pre.map (·.1) = toL ls who x.1 ∧ toB ls who x.1 = true ∧ (∃ A c, x.2 = .slice A (ls.getD x.1 default).2.2.length c) ∧ D x.2 (ls.getD x.1 default) W
/-- Where the document's list is looked at next. -/
def atOf (pre : List Hand) : Nat := match pre.getLast? with | none => 0 | some x => x.1 + 1
theorem atOf_snoc (pre : List Hand) (x : Hand) : atOf (pre ++ [x]) = x.1 + 1 := by simp [atOf]
theorem toL_mem {ls : List Let} {who : Int} {n k : Nat} : k ∈ toL ls who n ↔ k < n ∧ toB ls who k = true := by simp [toL]
/-- The last place of many. -/
theorem toL_last (ls : List Let) (who : Int) : ∀ (n : Nat) (k : Nat), k ∈ toL ls who n → ∃ m, (toL ls who n).getLast? = some m ∧ k ≤ m
  | 0, k, h => by simp [toL] at h
  | n + 1, k, h => by
    rw [toL_succ] at h ⊢
    by_cases ht : toB ls who n = true
    · rw [if_pos ht] at h ⊢
      refine ⟨n, by simp, ?_⟩
      rcases List.mem_append.1 h with h | h
      · have := (toL_mem.1 h).1; omega
      · simp at h; omega
    · rw [if_neg ht, List.append_nil] at h ⊢
      exact toL_last ls who n k h
theorem atOf_none {ls : List Let} {who : Int} {n : Nat} {pre : List Hand} (h : pre.map (·.1) = toL ls who n) (j : Nat) (h1 : atOf pre ≤ j) (h2 : j < n) : toB ls who j = false := by
  cases ht : toB ls who j with
  | false => rfl
  | true =>
    obtain ⟨m, hm, hj⟩ := toL_last ls who n j (toL_mem.2 ⟨h2, ht⟩)
    rw [← h, List.getLast?_map] at hm
    unfold atOf at h1
    cases hp : pre.getLast? with
    | none => rw [hp] at hm; cases hm
    | some x => rw [hp] at hm h1; simp at hm h1; omega
theorem atOf_le {ls : List Let} {who : Int} {n : Nat} {pre : List Hand} (h : pre.map (·.1) = toL ls who n) : atOf pre ≤ n := by
  unfold atOf
  cases hp : pre.getLast? with
  | none => exact Nat.zero_le _
  | some x =>
    have hx : x.1 ∈ pre.map (·.1) := List.mem_map.2 ⟨x, List.mem_of_getLast? hp, rfl⟩
    rw [h] at hx
    have := (toL_mem.1 hx).1
    show x.1 + 1 ≤ n
    omega
set_option maxRecDepth 100000 in
set_option maxHeartbeats 4000000 in
theorem to_iter (w : World) (p : Nat) (lv : Value) (ds : List Value) (ls : List Let) (sent : Int) (h : NetAt w p lv ds ls sent) (hn : ls.length ≤ 1024) (hx : ∀ j, j < ls.length → (ls.getD j default).2.2.length ≤ 1000000) (who : Int)
    (gp gw : Nat) (hgp : w.heap[gp]? = some (.cells #[.pointer (some ⟨p, 0, none⟩)] 24 (0, 0))) (hgw : w.heap[gw]? = some (.cells #[.int .i64 who] 3 (0, 0))) (D : Value → Let → World → Prop) (Kp : World → World → Prop)
    (hDu : ∀ d x A B, D d x A → Up A B → D d x B) (hD0 : ∀ d x W, W.ownsRow w.heap.size 5 1 d x.2.2.length (u8s x.2.2) → D d x W) (hDk : ∀ d x A B, D d x A → Kp A B → D d x B)
    (hKr : ∀ A B v n us, A.ownsRow w.heap.size 29 3 v n us → Kp A B → B.ownsRow w.heap.size 29 3 v n us) (hKw : ∀ A B, A.heap[gw]? = some (.cells #[.int .i64 who] 3 (0, 0)) → Kp A B → B.heap[gw]? = some (.cells #[.int .i64 who] 3 (0, 0))) (m : Nat) (hm : 1 ≤ m) :
    Iter m Try.prog 30 #[.pointer (some ⟨gp, 0, none⟩), .pointer (some ⟨gw, 0, none⟩)] (handV ls) (HandOk ls who D) Kp (fun xs => xs.map (·.1) = toL ls who ls.length) w := by
  intro l J W hup hJ hY h0
  have HALL := Lib.hid (all_any W p lv ds ls sent (h.up hup) hn hx)
  have c0 := cell_of_row W gp 0 _ _ _ (hup.heap hgp (fun h => h))
  have HGW := Lib.hid (hup.heap hgw (fun h => h))
  have HUP := Lib.hid hup
  have HJ := Lib.hid hJ
  have HY := Lib.hid hY
  have H0 := Lib.hid h0
  clear h hgp hgw hup hJ hY h0 hx
  refine callsIn_of_wp Try.func30 rfl trivial ?_ rfl
  simp only [Try.ntmps30, List.size_toArray, List.length_cons, List.length_nil, Nat.reduceAdd, Nat.reduceSub, Array.replicate_succ, Array.replicate_zero, List.push_toArray, List.append_toArray, List.nil_append, List.cons_append]
  gi_wp2_with fail
  refine ⟨trivial, ?_⟩
  refine (callsIn_wide.2 HALL.out).mono ?_
  rintro e W1 ⟨v, ds1, rfl, hcop, hb1⟩
  have hu1 := up_below hb1
  obtain ⟨Aa, ca, rfl⟩ := own_shape hcop.2.1
  have HROW := Lib.hid (own_base hcop.2.1 HUP.out.size)
  have HDL := Lib.hid hcop.1
  have hdat : ∀ j, j < ls.length → (∃ A c, ds1.getD j undef = .slice A (ls.getD j default).2.2.length c) ∧ D (ds1.getD j undef) (ls.getD j default) W1 := fun j hj => ⟨own_shape (hcop.2.2 j hj), hD0 _ _ _ (own_base (hcop.2.2 j hj) HUP.out.size)⟩
  have HDAT := Lib.hid hdat
  have HJ1 := Lib.hid (HJ.out _ _ _ H0.out hu1)
  have HGW1 := Lib.hid (hu1.heap HGW.out (fun h => h))
  clear hcop hb1 hu1 hdat c0
  gi_wp2_with fail
  gi_loopw [9] (fun i wr => ∃ (k : Nat) (pre : List Hand), k ≤ ls.length ∧ i = .int .i64 k ∧ J pre wr ∧ pre.map (·.1) = toL ls who k ∧ wr.ownsRow w.heap.size 29 3 (.slice Aa ls.length ca) ls.length (rowC ls ds1) ∧ (∀ j, j < ls.length → D (ds1.getD j undef) (ls.getD j default) wr) ∧ wr.heap[gw]? = some (.cells #[.int .i64 who] 3 (0, 0))) (fun i _ => ls.length - (intOf i).toNat)
  case atStart => exact ⟨0, [], by omega, rfl, HJ1.out, rfl, HROW.out, fun j hj => (HDAT.out j hj).2, HGW1.out⟩
  case round =>
    rename World => wr
    obtain ⟨k, pre, hk, rfl, hJk, hpre, hrow, hD, hgw⟩ := hrel
    by_cases hk2 : (k : Int) < ls.length
    · have hkk : k < ls.length := by omega
      obtain ⟨ga', rfl⟩ : ∃ g, Aa = some ⟨g, 0, none⟩ := by
        rcases hrow.2 with ⟨_, hz⟩ | ⟨g, cap, cur, he, _⟩
        · omega
        · injection he with e1; exact ⟨g, e1⟩
      obtain ⟨r0, r1, r2⟩ := row_cells hrow HDL.out k hkk
      have hdk := hD k hkk
      obtain ⟨⟨A3, c3, hd3⟩, _⟩ := HDAT.out k hkk
      have hok : ∀ wq, Up wr wq → toB ls who k = true → HandOk ls who D pre (k, ds1.getD k undef) wq := fun wq hu ht => ⟨hkk, hpre, ht, ⟨A3, c3, hd3⟩, hDu _ _ _ _ hdk hu⟩
      have hyk := fun wq (hu : Up wr wq) ht => HY.out pre (k, ds1.getD k undef) wq (HJ.out _ _ _ hJk hu) (hok wq hu ht)
      unfold handV at hyk
      dsimp only at hyk
      rw [hd3] at r2 hyk
      obtain ⟨x, hxe⟩ : ∃ x, ls.getD k default = x := ⟨_, rfl⟩
      have hto : toB ls who k = (x.2.1 == who) := by unfold toB; rw [hxe]
      rw [hxe] at r0 r1 r2 hyk
      obtain ⟨f, t, xs⟩ := x
      dsimp only at r0 r1 r2 hyk hto
      obtain ⟨W4, hW4⟩ : ∃ W, W = wr.alloc (.cells #[.int .i64 f, .int .i64 t, .slice A3 xs.length c3] 29) := ⟨_, rfl⟩
      have hu4 : Up wr W4 := by rw [hW4]; exact (Chg.refl _ wr).alloc _
      have cw : (wr.alloc (.cells #[.int .i64 f, .int .i64 t, .slice A3 xs.length c3] 29)).cell? ⟨gw, 0, none⟩ = some (.int .i64 who) := by rw [← hW4]; exact cell_of_row W4 gw 0 _ _ _ (hu4.heap hgw (fun h => h))
      have HROWK := Lib.hid hrow
      have HDK := Lib.hid hD
      have HGWK := Lib.hid hgw
      have HJK := Lib.hid hJk
      have HPRE := Lib.hid hpre
      have HU4 := Lib.hid hu4
      have HW4 := Lib.hid hW4
      have HD3 := Lib.hid hd3
      have e0 := toL_succ ls who k
      rw [hto] at e0
      cases hbt : (t == who)
      · rw [hbt] at e0
        have HE := Lib.hid e0
        clear hok hyk hdk hrow hD hgw hJk hpre hu4 hW4 hd3 hxe hto e0
        gi_wp2_with fail
        refine ⟨fun _ h => (by cases h), ?_⟩
        gi_wp2_with fail
        rw [← HW4.out]
        refine ⟨⟨k + 1, pre, by omega, by go_num, HJ.out _ _ _ HJK.out HU4.out, by rw [HE.out]; simpa using HPRE.out, own_chg HROWK.out HU4.out (fun _ _ h => h), fun j hj => hDu _ _ _ _ (HDK.out j hj) HU4.out, HU4.out.heap HGWK.out (fun h => h)⟩, by simp [intOf]; omega⟩
      · rw [hbt] at e0
        obtain ⟨fn, tmps, assign, body, hy, hR⟩ := hyk W4 hu4 (by rw [hto]; exact hbt)
        have HR := Lib.hid hR
        have HE := Lib.hid e0
        rw [hW4] at hy
        clear hok hyk hdk hrow hD hgw hJk hpre hu4 hW4 hd3 hxe hto e0 hR
        gi_wp2_with fail
        rw [← HW4.out]
        refine HR.out.mono ?_
        rintro e W5 ⟨rfl, hJ5, hk5⟩
        have HJ5 := Lib.hid hJ5
        have HK5 := Lib.hid hk5
        clear hJ5 hk5 hy
        gi_wp2_with fail
        exact ⟨⟨k + 1, pre ++ [(k, .slice A3 xs.length c3)], by omega, by go_num, HJ5.out, by rw [HE.out, List.map_append, HPRE.out]; rfl, hKr _ _ _ _ _ (own_chg HROWK.out HU4.out (fun _ _ h => h)) HK5.out, fun j hj => hDk _ _ _ _ (hDu _ _ _ _ (HDK.out j hj) HU4.out) HK5.out, hKw _ _ (HU4.out.heap HGWK.out (fun h => h)) HK5.out⟩, by simp [intOf]; omega⟩
    · obtain rfl : k = ls.length := by omega
      have HJK := Lib.hid hJk
      have HPRE := Lib.hid hpre
      clear hrow hD hgw hJk hpre
      gi_wp2_with fail
      go_end0
      exact ⟨⟨_, rfl⟩, pre, HPRE.out, HJK.out⟩
end Go.Proofs.Ytofmblkmfbioiaa
