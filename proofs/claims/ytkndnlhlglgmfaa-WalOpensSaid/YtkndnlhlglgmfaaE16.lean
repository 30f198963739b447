/-
  A disk by its blocks: what its methods do to it, and to no other.
-/
import Derived.Test.YtkndnlhlglgmfaaE15
namespace Go.Proofs.Ytkndnlhlglgmfaa
open Go.RowKit
/-- The disk whose blocks are known. -/
def DskV (w : World) (p b : Nat) (sv : Value) (x : Dk) (k : Nat) : Prop := ∃ m ss C, DiskAt w p b m sv ss C x ∧ m ≤ k
section
variable {w w' : World} {p b : Nat} {sv : Value} {x y : Dk} {k l : Nat}
theorem DskV.up (h : DskV w p b sv x k) (hu : Up w w') : DskV w' p b sv x k := by
  obtain ⟨m, ss, C, h1, h2⟩ := h
  exact ⟨m, ss, C, h1.up hu, h2⟩
theorem DskV.le (h : DskV w p b sv x k) (hl : k ≤ l) : DskV w p b sv x l := by
  obtain ⟨m, ss, C, h1, h2⟩ := h
  exact ⟨m, ss, C, h1, by omega⟩
theorem DskV.lt (h : DskV w p b sv x k) (g : Nat) (hg : OwnD p b sv g) : g < w.heap.size := by
  obtain ⟨m, ss, C, h1, h2⟩ := h
  exact own_lt h1 g hg
theorem DskV.keep {p2 b2 : Nat} {sv2 : Value} (h : DskV w p b sv x k) (h2 : DskV w p2 b2 sv2 y l) (hs : ∀ j, OwnD p b sv j → ¬ OwnD p2 b2 sv2 j) (hc : Chg (OwnD p2 b2 sv2) w w') : DskV w' p b sv x k := by
  obtain ⟨m, ss, C, h1, hm⟩ := h
  obtain ⟨m2, ss2, C2, h3, _⟩ := h2
  exact ⟨m, ss, C, h1.keep h3 hs hc, hm⟩
/-- Sectors of bytes are not the disk's own blocks. -/
theorem DskV.not5 (h : DskV w p b sv x k) : ∀ j cur fr, OwnD p b sv j → w.heap[j]? ≠ some (.cells cur 5 fr) := by
  obtain ⟨m, ss, C, h1, hm⟩ := h
  intro j cur fr hj hh
  rcases hj with rfl | rfl | hj
  · rw [h1.obj] at hh; cases hh
  · obtain ⟨es, cl, hb⟩ := h1.map.block
    rw [hb] at hh; cases hh
  · obtain ⟨cu, fu, hg⟩ := own_type h1.row j hj
    rw [hg] at hh; cases hh
end
theorem vwrite (w : World) (p b : Nat) (sv : Value) (x : Dk) (k : Nat) (h : DskV w p b sv x k) (hw : Wf x k) (hk : k ≤ 100000) (i : Int) (d : Value) (xs : List Int) (hd : SlB w d xs) (hx : xs.length ≤ 1000000) :
    Calls Try.prog 16 #[.pointer (some ⟨p, 0, none⟩), .int .i64 i, d] w (fun e w' => e = .returned (.int .i64 (writeI x i xs).2) ∧ DskV w' p b sv (writeI x i xs).1 (k + 1) ∧ Chg (OwnD p b sv) w w') := by
  obtain ⟨m, ss, C, h1, h2⟩ := h
  refine (write_any w p b m sv ss C x h1 hw.left (by have := hw.done; omega) (by omega) hw.num i d xs hd hx).mono ?_
  rintro e w' ⟨m', C', rfl, hd', hm', hc⟩
  exact ⟨rfl, ⟨m', ss, C', hd', by omega⟩, hc.mono (fun j _ hj => hj.elim .inl (fun h => .inr (.inl h)))⟩
theorem vflush (w : World) (p b : Nat) (sv : Value) (x : Dk) (k : Nat) (h : DskV w p b sv x k) (hw : Wf x k) (hk : k ≤ 100000) :
    Calls Try.prog 17 #[.pointer (some ⟨p, 0, none⟩)] w (fun e w' => e = .returned (.int .i64 (flushI x).2) ∧ DskV w' p b sv (flushI x).1 (k + 1) ∧ Chg (OwnD p b sv) w w') := by
  obtain ⟨m, ss, C, h1, h2⟩ := h
  refine (flush_any w p b m sv ss C x h1 hw.left (by have := hw.done; omega) hw.num).mono ?_
  rintro e w' ⟨m', ss', C', rfl, hd', hm', hc⟩
  exact ⟨rfl, ⟨m', ss', C', hd', by omega⟩, hc⟩
theorem vread (w : World) (p b : Nat) (sv : Value) (x : Dk) (k : Nat) (h : DskV w p b sv x k) (hw : Wf x k) (i : Int) (hi : I64 i) :
    Calls Try.prog 18 #[.pointer (some ⟨p, 0, none⟩), .int .i64 i] w (fun e w' => ∃ v, e = .returned (.tuple #[v, .int .i64 (readI x i).2]) ∧ w'.ownsRow w.heap.size 5 1 v (readI x i).1.length (u8s (readI x i).1) ∧ Below w.heap.size w w') := by
  obtain ⟨m, ss, C, h1, h2⟩ := h
  exact read_any w p b m sv ss C x h1 hw.num i hi hw.fit
theorem vcrash (w : World) (p b : Nat) (sv : Value) (x : Dk) (k : Nat) (h : DskV w p b sv x k) (hw : Wf x k) (v : Value) (zs : List Int) (hv : SlI w v zs) (hz : ∀ j, I64 (zs.getD j 0)) (hzn : zs.length ≤ 100000) (hsep : ∀ g, Value.blk v = some g → 0 < zs.length → ¬ OwnD p b sv g) :
    Calls Try.prog 20 #[.pointer (some ⟨p, 0, none⟩), v] w (fun e w' => (∃ u, e = .returned u) ∧ DskV w' p b sv (crashI x zs) k ∧ Chg (OwnD p b sv) w w') := by
  obtain ⟨m, ss, C, h1, h2⟩ := h
  refine (crash_any w p b m sv ss C x h1 hw.num v zs hv hz hzn hsep).mono ?_
  rintro e w' ⟨hu, ss', hd', hc⟩
  exact ⟨hu, ⟨0, ss', _, hd', by omega⟩, hc⟩
theorem vtamper (w : World) (p b : Nat) (sv : Value) (x : Dk) (k : Nat) (h : DskV w p b sv x k) (hw : Wf x k) (i : Int) (d : Value) (xs : List Int) (hd : SlB w d xs) (hx : xs.length ≤ 1000000) :
    Calls Try.prog 23 #[.pointer (some ⟨p, 0, none⟩), .int .i64 i, d] w (fun e w' => e = .returned (.int .i64 (tamperI x i xs).2) ∧ DskV w' p b sv (tamperI x i xs).1 k ∧ Chg (OwnD p b sv) w w') := by
  obtain ⟨m, ss, C, h1, h2⟩ := h
  refine (tamper_any w p b m sv ss C x h1 hw.num i d xs hd hx).mono ?_
  rintro e w' ⟨m', ss', C', rfl, hd', hm', hc⟩
  exact ⟨rfl, ⟨m', ss', C', hd', by omega⟩, hc⟩
theorem varm (w : World) (p b : Nat) (sv : Value) (x : Dk) (k : Nat) (h : DskV w p b sv x k) (n : Int) :
    Calls Try.prog 14 #[.pointer (some ⟨p, 0, none⟩), .int .i64 n] w (fun e w' => (∃ u, e = .returned u) ∧ DskV w' p b sv { x with left := max n (-1) } k ∧ Chg (OwnD p b sv) w w') := by
  obtain ⟨m, ss, C, h1, h2⟩ := h
  refine (arm_any w p b m sv ss C x h1 n).mono ?_
  rintro e w' ⟨hu, hd', hc⟩
  exact ⟨hu, ⟨m, ss, C, hd', h2⟩, hc.mono (fun j _ hj => .inl hj)⟩
theorem vdown (w : World) (p b : Nat) (sv : Value) (x : Dk) (k : Nat) (h : DskV w p b sv x k) : Calls Try.prog 15 #[.pointer (some ⟨p, 0, none⟩)] w (fun e w' => e = .returned (.bool x.down) ∧ w' = w) := by
  obtain ⟨m, ss, C, h1, h2⟩ := h
  exact down_any w p b m sv ss C x h1
theorem vdone (w : World) (p b : Nat) (sv : Value) (x : Dk) (k : Nat) (h : DskV w p b sv x k) : Calls Try.prog 19 #[.pointer (some ⟨p, 0, none⟩)] w (fun e w' => e = .returned (.int .i64 x.done) ∧ w' = w) := by
  obtain ⟨m, ss, C, h1, h2⟩ := h
  exact done_any w p b m sv ss C x h1
theorem vsize (w : World) (p b : Nat) (sv : Value) (x : Dk) (k : Nat) (h : DskV w p b sv x k) : Calls Try.prog 58 #[.pointer (some ⟨p, 0, none⟩)] w (fun e w' => e = .returned (.int .i64 x.size) ∧ w' = w) := by
  obtain ⟨m, ss, C, h1, h2⟩ := h
  exact size_any w p b m sv ss C x h1
theorem vsectors (w : World) (p b : Nat) (sv : Value) (x : Dk) (k : Nat) (h : DskV w p b sv x k) : Calls Try.prog 53 #[.pointer (some ⟨p, 0, none⟩)] w (fun e w' => e = .returned (.int .i64 x.has.length) ∧ w' = w) := by
  obtain ⟨m, ss, C, h1, h2⟩ := h
  exact sectors_any w p b m sv ss C x h1
def VNew (w : World) (x : Dk) (k : Nat) (e : Ending) (w' : World) : Prop := ∃ p b sv, e = .returned (.pointer (some ⟨p, 0, none⟩)) ∧ DskV w' p b sv x k ∧ (∀ j, OwnD p b sv j → w.heap.size ≤ j) ∧ Below w.heap.size w w'
theorem vcopy (w : World) (p b : Nat) (sv : Value) (x : Dk) (k : Nat) (h : DskV w p b sv x k) (hw : Wf x k) : Calls Try.prog 22 #[.pointer (some ⟨p, 0, none⟩)] w (VNew w x k) := by
  obtain ⟨m, ss, C, h1, h2⟩ := h
  refine (copy_any w p b m sv ss C x h1 hw.num).mono ?_
  rintro e w' ⟨q, b', sv', rfl, hd, ho, hb⟩
  exact ⟨q, b', sv', rfl, ⟨m, ss, C, hd, h2⟩, ho, hb⟩
theorem vdiffer (w : World) (p b q b2 : Nat) (sv sv2 : Value) (x y : Dk) (k l : Nat) (h : DskV w p b sv x k) (h2 : DskV w q b2 sv2 y l) (hw : Wf x k) : Calls Try.prog 21 #[.pointer (some ⟨p, 0, none⟩), .pointer (some ⟨q, 0, none⟩)] w (DifPost w x y) := by
  obtain ⟨m, ss, C, h1, _⟩ := h
  obtain ⟨m2, ss2, C2, h3, _⟩ := h2
  exact differ_any w p b m sv ss C x h1 q b2 m2 sv2 ss2 C2 y h3 hw.num
theorem vnew (w : World) (n size : Nat) (h : FormOk n size) : Calls Try.prog 11 #[.int .i64 n, .int .i64 size] w (VNew w (freshI n size) 0) := by
  have h' := h
  unfold FormOk at h'
  refine (new_any w n size ⟨by omega, by omega⟩ ⟨by omega, by omega⟩).mono ?_
  rintro e w' (⟨hn, _⟩ | ⟨_, p, b, sv, ss, rfl, hd, hb, ho⟩)
  · exact absurd h hn
  · rw [Int.toNat_natCast, Int.toNat_natCast] at hd
    exact ⟨p, b, sv, rfl, ⟨0, ss, _, hd, Nat.le_refl _⟩, ho, hb⟩
theorem vnew_any (w : World) (n size : Int) (hn : I64 n) (hs : I64 size) : Calls Try.prog 11 #[.int .i64 n, .int .i64 size] w (fun e w' => (¬ FormOk n size ∧ e = .returned (.pointer none) ∧ w' = w) ∨ (FormOk n size ∧ VNew w (freshI n.toNat size.toNat) 0 e w')) := by
  refine (new_any w n size hn hs).mono ?_
  rintro e w' (h | ⟨h, p, b, sv, ss, rfl, hd, hb, ho⟩)
  · exact .inl h
  · exact .inr ⟨h, p, b, sv, rfl, ⟨0, ss, _, hd, Nat.le_refl _⟩, ho, hb⟩
theorem Wf.tamper {x : Dk} {k : Nat} (h : Wf x k) (i : Int) (xs : List Int) : Wf (tamperI x i xs).1 k := by
  unfold tamperI
  split
  · exact h
  · rename_i h0
    obtain ⟨h1, h2, h3⟩ := checkI_ok (show checkI x i xs.length = 0 by omega)
    refine ⟨h.left, h.done, by simpa using h.num, h.size, fun j hj => ?_, fun j ys hj => ?_⟩
    · have hj' : j < x.has.length := by simpa using hj
      dsimp only
      by_cases e : j = i.toNat
      · subst e
        rw [List.getD_eq_getElem?_getD, List.getElem?_set_self hj']
        exact h3
      · rw [List.getD_eq_getElem?_getD, List.getElem?_set_ne (fun h => e h.symm), ← List.getD_eq_getElem?_getD]
        exact h.has j hj'
    · dsimp only at hj ⊢
      unfold updI at hj
      split at hj
      · cases hj
      · rw [List.length_set]
        exact h.ca j ys hj
/-- The power is there, and stays. -/
def Live (x : Dk) : Prop := x.left = -1 ∧ x.down = false
theorem Live.comm {x : Dk} (h : Live x) : Live (commI x).1 ∧ (commI x).2 = 0 := by
  unfold commI
  rw [if_neg (by rw [h.1]; decide)]
  exact ⟨⟨by show max (x.left - 1) (-1) = -1; rw [h.1]; decide, h.2⟩, rfl⟩
theorem Live.write {x : Dk} (h : Live x) (i : Int) (xs : List Int) : Live (writeI x i xs).1 := by
  unfold writeI
  rw [if_neg (by rw [h.2]; decide)]
  split
  · exact h
  · exact (show Live { x with ca := updI x.ca i (some xs) } from h).comm.1
theorem Live.flush {x : Dk} (h : Live x) : Live (flushI x).1 := by
  unfold flushI
  rw [if_neg (by rw [h.2]; decide), if_pos h.comm.2]
  exact h.comm.1
theorem Live.crash (x : Dk) (zs : List Int) : Live (crashI x zs) := ⟨rfl, rfl⟩
theorem Live.tamper {x : Dk} (h : Live x) (i : Int) (xs : List Int) : Live (tamperI x i xs).1 := by
  unfold tamperI
  split
  · exact h
  · exact h
theorem Live.fresh (n size : Nat) : Live (freshI n size) := ⟨rfl, rfl⟩
theorem Live.read {x : Dk} (h : Live x) (i : Nat) (hi : i < x.has.length) : readI x i = (nowI x i, 0) := by
  unfold readI nowI
  rw [if_neg (by rw [h.2]; decide), if_neg (by omega)]
/-- How many sectors there are stays. -/
theorem commI_size (x : Dk) : (commI x).1.size = x.size := by unfold commI; split <;> rfl
theorem write_form (x : Dk) (i : Int) (xs : List Int) : (writeI x i xs).1.has.length = x.has.length ∧ (writeI x i xs).1.size = x.size := by
  unfold writeI
  split
  · exact ⟨rfl, rfl⟩
  · split
    · exact ⟨rfl, rfl⟩
    · rw [commI_has, commI_size]; exact ⟨rfl, rfl⟩
theorem settle_form (x : Dk) : (settleI x).has.length = x.has.length ∧ (settleI x).size = x.size := by
  unfold settleI
  simp
theorem flush_form (x : Dk) : (flushI x).1.has.length = x.has.length ∧ (flushI x).1.size = x.size := by
  unfold flushI
  split
  · exact ⟨rfl, rfl⟩
  · split
    · dsimp only; rw [(settle_form _).1, (settle_form _).2, commI_has, commI_size]; exact ⟨rfl, rfl⟩
    · rw [commI_has, commI_size]; exact ⟨rfl, rfl⟩
theorem crash_form (x : Dk) (zs : List Int) : (crashI x zs).has.length = x.has.length ∧ (crashI x zs).size = x.size := by
  unfold crashI
  exact settle_form _
theorem tamper_form (x : Dk) (i : Int) (xs : List Int) : (tamperI x i xs).1.has.length = x.has.length ∧ (tamperI x i xs).1.size = x.size := by
  unfold tamperI
  split
  · exact ⟨rfl, rfl⟩
  · simp
/-- A disk of eight sectors of sixteen bytes, whose power is there. -/
structure W8 (x : Dk) (k : Nat) : Prop where
  wf : Wf x k
  live : Live x
  num : x.has.length = 8
  size : x.size = 16
theorem W8.fresh : W8 (freshI 8 16) 0 := ⟨Wf.fresh 8 16 (by omega) (by omega), Live.fresh 8 16, rfl, rfl⟩
theorem W8.write {x : Dk} {k : Nat} (h : W8 x k) (i : Int) (xs : List Int) : W8 (writeI x i xs).1 (k + 1) := ⟨h.wf.write i xs, h.live.write i xs, (write_form x i xs).1.trans h.num, (write_form x i xs).2.trans h.size⟩
theorem W8.flush {x : Dk} {k : Nat} (h : W8 x k) : W8 (flushI x).1 (k + 1) := ⟨h.wf.flush, h.live.flush, (flush_form x).1.trans h.num, (flush_form x).2.trans h.size⟩
theorem W8.crash {x : Dk} {k : Nat} (h : W8 x k) (zs : List Int) : W8 (crashI x zs) k := ⟨h.wf.crash zs, Live.crash x zs, (crash_form x zs).1.trans h.num, (crash_form x zs).2.trans h.size⟩
theorem W8.tamper {x : Dk} {k : Nat} (h : W8 x k) (i : Int) (xs : List Int) : W8 (tamperI x i xs).1 k := ⟨h.wf.tamper i xs, h.live.tamper i xs, (tamper_form x i xs).1.trans h.num, (tamper_form x i xs).2.trans h.size⟩
theorem W8.mono {x : Dk} {k l : Nat} (h : W8 x k) (hl : k ≤ l) : W8 x l := ⟨h.wf.mono hl, h.live, h.num, h.size⟩
/-- The list of what differs, at a place. -/
theorem diffI_at (x y : Dk) (i n : Nat) (hi : i < n) (h : eqS (nowI x i) (nowI y i) = false) : (diffI x y n)[(diffI x y i).length]? = some (i : Int) := by
  induction n with
  | zero => omega
  | succ n ih =>
    rw [diffI_succ]
    by_cases e : i = n
    · subst e
      rw [h, if_neg (by simp)]
      rw [List.getElem?_append_right (Nat.le_refl _), Nat.sub_self]
      rfl
    · have := ih (by omega)
      split
      · exact this
      · rw [List.getElem?_append_left (List.getElem?_eq_some_iff.1 this).1]
        exact this
end Go.Proofs.Ytkndnlhlglgmfaa
