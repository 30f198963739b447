/-
  A disk with its bounds: what its methods do to it.
-/
import Derived.Test.YtkndnlhlglgmfaaE8
import Derived.Lib.Bytes
namespace Go.Proofs.Ytkndnlhlglgmfaa
open Go.RowKit
theorem bytes_tail {x : Int} {l : List Int} (h : Bytes (x :: l)) : Bytes l := fun j => by simpa using h (j + 1)
theorem bytesOf_eq : ∀ (xs ys : List Int), Bytes xs → Bytes ys → ((Lib.bytesOf xs == Lib.bytesOf ys) = (xs == ys))
  | [], [], _, _ => rfl
  | [], _ :: _, _, _ => rfl
  | _ :: _, [], _, _ => rfl
  | x :: xs, y :: ys, h, k => by
    have ih := bytesOf_eq xs ys (bytes_tail h) (bytes_tail k)
    have hx := h 0
    have hy := k 0
    simp only [List.getD_cons_zero] at hx hy
    unfold Lib.bytesOf at ih ⊢
    rw [List.map_cons, List.map_cons, List.cons_beq_cons, List.cons_beq_cons, ih]
    congr 1
    rw [Bool.eq_iff_iff]
    simp only [beq_iff_eq]
    constructor
    · intro he
      have := congrArg UInt8.toNat he
      simp at this
      omega
    · rintro rfl; rfl
theorem str_eq (xs ys : List Int) (h : Bytes xs) (k : Bytes ys) : ((strOfNums xs).toList == (strOfNums ys).toList) = (xs == ys) := by
  rw [Lib.strOfNums_toList, Lib.strOfNums_toList]; exact bytesOf_eq xs ys h k
theorem str_add (xs ys : List Int) : strOfNums xs ++ strOfNums ys = strOfNums (xs ++ ys) := by
  apply ByteArray.ext
  show (strOfNums xs ++ strOfNums ys).data = _
  simp [strOfNums]
set_option maxRecDepth 100000 in
theorem sl_string {w : World} {v : Value} {xs : List Int} (h : SlB w v xs) : (convert 28 9 v).run Try.prog w = .ok (.string (strOfNums xs)) w := by
  rcases Nat.eq_zero_or_pos xs.length with h0 | h0
  · obtain rfl : xs = [] := List.eq_nil_of_length_eq_zero h0
    rcases h with ⟨rfl, _, _⟩ | ⟨⟨b, off, sp⟩, c, rfl, hl, hc, hc2, hr⟩
    · exact run_convert_bytes_nil w 28 5 Try.underlying28 Try.underlying5 0 0 9 Try.underlying9
    · simp [convert, run_underlying Try.underlying28, run_underlying Try.underlying9, run_underlying Try.underlying5, Conv.bytesToString, loadCells, loadCellsFrom, strOfNums]
      rfl
  · obtain ⟨b, off, c, rfl, hc, hc2⟩ := h.form h0
    exact run_convert_bytes_arg w 28 5 Try.underlying28 Try.underlying5 b off xs.length c xs rfl (fun i hi => h.at_ i hi) 9 Try.underlying9

theorem gives_string {o : Oper} {ρ : Operand → Value} {w : World} {Φ : Value → World → Prop} {x : Operand} {xs : List Int} (ho : o.op = .convert 28 9 x) (h : SlB w (ρ x) xs) (k : Φ (.string (strOfNums xs)) w) : Gives Try.prog o ρ w Φ := by
  refine Gives.value (v := .string (strOfNums xs)) (w' := w) ?_ k
  simp [execOp, ho, sl_string h]
theorem gives_streq {P : Program} {o : Oper} {ρ : Operand → Value} {w : World} {Φ : Value → World → Prop} {x y : Operand} {xs ys : List Int} (ho : o.op = .binOp .eql 9 x y 9) (hx : ρ x = .string (strOfNums xs)) (hy : ρ y = .string (strOfNums ys)) (h : Bytes xs) (k : Bytes ys) (kk : Φ (.bool (xs == ys)) w) : Gives P o ρ w Φ := by
  refine Gives.value (v := .bool (xs == ys)) (w' := w) ?_ kk
  simp [execOp, ho, hx, hy, eqGuard, binOp, Op.stringOp]
  exact str_eq xs ys h k
/-- The disk of a call's own. -/
def Dsk (w : World) (p b q : Nat) (x : Dk) (k : Nat) : Prop := ∃ m sv ss C, DiskAt w p b m sv ss C x ∧ m ≤ k ∧ ∀ j, OwnD p b sv j → q ≤ j
/-- A disk's bounds. -/
structure Wf (x : Dk) (k : Nat) : Prop where
  left : -1 ≤ x.left ∧ x.left ≤ 9223372036854775807
  done : 0 ≤ x.done ∧ x.done ≤ k
  num : x.has.length ≤ 65536
  size : x.size ≤ 4096
  has : ∀ j, j < x.has.length → (x.has.getD j []).length = x.size
  ca : ∀ i xs, x.ca i = some xs → xs.length = x.size ∧ 0 ≤ i ∧ i < x.has.length
theorem Wf.fit {x : Dk} {k : Nat} (h : Wf x k) : ∀ xs, ((∃ j, xs = x.has.getD j []) ∨ ∃ j, x.ca j = some xs) → xs.length ≤ 1000000 := by
  have hs := h.size
  rintro xs (⟨j, rfl⟩ | ⟨j, hj⟩)
  · by_cases h1 : j < x.has.length
    · rw [h.has j h1]; omega
    · rw [List.getD_eq_getElem?_getD, List.getElem?_eq_none (by omega)]; simp
  · rw [(h.ca j xs hj).1]; omega
theorem Wf.mono {x : Dk} {k l : Nat} (h : Wf x k) (hl : k ≤ l) : Wf x l := ⟨h.left, by have := h.done; omega, h.num, h.size, h.has, h.ca⟩
theorem Wf.comm {x : Dk} {k : Nat} (h : Wf x k) : Wf (commI x).1 (k + 1) := by
  unfold commI
  have h1 := h.left
  have h2 := h.done
  split
  · exact ⟨h1, by show 0 ≤ x.done ∧ x.done ≤ _; omega, h.num, h.size, h.has, h.ca⟩
  · exact ⟨by show -1 ≤ max (x.left - 1) (-1) ∧ max (x.left - 1) (-1) ≤ _; omega, by show 0 ≤ x.done + 1 ∧ x.done + 1 ≤ _; omega, h.num, h.size, h.has, h.ca⟩
theorem checkI_ok {x : Dk} {i : Int} {n : Nat} (h : checkI x i n = 0) : 0 ≤ i ∧ i < x.has.length ∧ n = x.size := by
  unfold checkI at h
  split at h
  · cases h
  · split at h
    · cases h
    · omega
theorem Wf.write {x : Dk} {k : Nat} (h : Wf x k) (i : Int) (xs : List Int) : Wf (writeI x i xs).1 (k + 1) := by
  unfold writeI
  split
  · exact h.mono (by omega)
  · split
    · exact h.mono (by omega)
    · rename_i hc
      have hc' : checkI x i xs.length = 0 := by simpa using hc
      obtain ⟨c1, c2, c3⟩ := checkI_ok hc'
      refine Wf.comm ⟨h.left, h.done, h.num, h.size, h.has, fun j ys hj => ?_⟩
      dsimp only at hj ⊢
      unfold updI at hj
      split at hj
      · injection hj with hj; subst hj; rename_i he; exact ⟨c3, by omega, by rw [he]; exact c2⟩
      · exact h.ca j ys hj
theorem settleI_len (x : Dk) : (settleI x).has.length = x.has.length := by simp [settleI]
theorem settleI_at (x : Dk) (j : Nat) (h : j < x.has.length) : (settleI x).has.getD j [] = (x.ca (j : Int)).getD (x.has.getD j []) := by simp [settleI, List.getD_eq_getElem?_getD, h]
theorem Wf.settle {x : Dk} {k : Nat} (h : Wf x k) : Wf (settleI x) k := by
  refine ⟨h.left, h.done, by rw [settleI_len]; exact h.num, h.size, fun j hj => ?_, fun i xs hi => by cases hi⟩
  rw [settleI_len] at hj
  rw [settleI_at x j hj]
  cases hc : x.ca (j : Int) with
  | none => exact h.has j hj
  | some v => exact (h.ca _ _ hc).1
theorem Wf.flush {x : Dk} {k : Nat} (h : Wf x k) : Wf (flushI x).1 (k + 1) := by
  unfold flushI
  split
  · exact h.mono (by omega)
  · split
    · exact h.comm.settle
    · exact h.comm
theorem Wf.dropped {x : Dk} {k : Nat} : ∀ (zs : List Int) (ca : Int → Option (List Int)), Wf { x with ca := ca } k → Wf { x with ca := dropAll ca zs } k
  | [], ca, h => h
  | z :: zs, ca, h => Wf.dropped zs (updI ca z none) ⟨h.left, h.done, h.num, h.size, h.has, fun i xs hi => by
      dsimp only at hi ⊢
      unfold updI at hi
      split at hi
      · cases hi
      · exact h.ca i xs hi⟩
theorem Wf.crash {x : Dk} {k : Nat} (h : Wf x k) (zs : List Int) : Wf (crashI x zs) k := by
  have := (Wf.dropped zs x.ca h).settle
  exact ⟨by show -1 ≤ (-1 : Int) ∧ (-1 : Int) ≤ _; omega, this.done, this.num, this.size, this.has, this.ca⟩
theorem Wf.arm {x : Dk} {k : Nat} (h : Wf x k) (n : Int) (hn : I64 n) : Wf { x with left := max n (-1) } k :=
  ⟨by obtain ⟨_, _⟩ := hn; show -1 ≤ max n (-1) ∧ max n (-1) ≤ _; omega, h.done, h.num, h.size, h.has, h.ca⟩
theorem Wf.fresh (n size : Nat) (hn : n ≤ 65536) (hs : size ≤ 4096) : Wf (freshI n size) 0 :=
  ⟨by show -1 ≤ (-1 : Int) ∧ (-1 : Int) ≤ _; omega, by show 0 ≤ (0 : Int) ∧ (0 : Int) ≤ _; omega, by simp [freshI]; omega, hs, fun j hj => by
    simp only [freshI, List.length_replicate] at hj
    simp [freshI, List.getD_eq_getElem?_getD, hj], fun i xs hi => by cases hi⟩
theorem Dsk.up {w w' : World} {p b q : Nat} {x : Dk} {k : Nat} (h : Dsk w p b q x k) (hu : Up w w') : Dsk w' p b q x k := by
  obtain ⟨m, sv, ss, C, h1, h2, h3⟩ := h
  exact ⟨m, sv, ss, C, h1.up hu, h2, h3⟩
theorem Dsk.below {w w' : World} {p b q : Nat} {x : Dk} {k : Nat} (h : Dsk w p b q x k) (hu : Below w.heap.size w w') : Dsk w' p b q x k := h.up (up_below hu)
theorem Dsk.lt {w : World} {p b q : Nat} {x : Dk} {k : Nat} (h : Dsk w p b q x k) : q ≤ p ∧ p < w.heap.size := by
  obtain ⟨m, sv, ss, C, h1, h2, h3⟩ := h
  exact ⟨h3 p (.inl rfl), (Array.getElem?_eq_some_iff.1 h1.obj).1⟩
theorem dwrite (w : World) (p b q : Nat) (x : Dk) (k : Nat) (h : Dsk w p b q x k) (hw : Wf x k) (hk : k ≤ 100000) (i : Int) (d : Value) (xs : List Int) (hd : SlB w d xs) (hx : xs.length ≤ 1000000) :
    Calls Try.prog 16 #[.pointer (some ⟨p, 0, none⟩), .int .i64 i, d] w (fun e w' => e = .returned (.int .i64 (writeI x i xs).2) ∧ Dsk w' p b q (writeI x i xs).1 (k + 1) ∧ Chg (fun j => q ≤ j) w w') := by
  obtain ⟨m, sv, ss, C, h1, h2, h3⟩ := h
  refine (write_any w p b m sv ss C x h1 hw.left (by have := hw.done; omega) (by omega) hw.num i d xs hd hx).mono ?_
  rintro e w' ⟨m', C', rfl, hd', hm', hc⟩
  exact ⟨rfl, ⟨m', sv, ss, C', hd', by omega, h3⟩, hc.mono (fun j _ hj => h3 j (hj.elim .inl (fun h => .inr (.inl h))))⟩
theorem dflush (w : World) (p b q : Nat) (x : Dk) (k : Nat) (h : Dsk w p b q x k) (hw : Wf x k) (hk : k ≤ 100000) :
    Calls Try.prog 17 #[.pointer (some ⟨p, 0, none⟩)] w (fun e w' => e = .returned (.int .i64 (flushI x).2) ∧ Dsk w' p b q (flushI x).1 (k + 1) ∧ Chg (fun j => q ≤ j) w w') := by
  obtain ⟨m, sv, ss, C, h1, h2, h3⟩ := h
  refine (flush_any w p b m sv ss C x h1 hw.left (by have := hw.done; omega) hw.num).mono ?_
  rintro e w' ⟨m', ss', C', rfl, hd', hm', hc⟩
  exact ⟨rfl, ⟨m', sv, ss', C', hd', by omega, h3⟩, hc.mono (fun j _ hj => h3 j hj)⟩
theorem dread (w : World) (p b q : Nat) (x : Dk) (k : Nat) (h : Dsk w p b q x k) (hw : Wf x k) (i : Int) (hi : I64 i) :
    Calls Try.prog 18 #[.pointer (some ⟨p, 0, none⟩), .int .i64 i] w (fun e w' => ∃ v, e = .returned (.tuple #[v, .int .i64 (readI x i).2]) ∧ w'.ownsRow w.heap.size 5 1 v (readI x i).1.length (u8s (readI x i).1) ∧ Below w.heap.size w w') := by
  obtain ⟨m, sv, ss, C, h1, h2, h3⟩ := h
  exact read_any w p b m sv ss C x h1 hw.num i hi hw.fit
theorem own_lt {w : World} {p b m : Nat} {sv : Value} {ss : List Value} {C : Int → Option Value} {x : Dk} (h : DiskAt w p b m sv ss C x) (g : Nat) (ho : OwnD p b sv g) : g < w.heap.size := by
  rcases ho with rfl | rfl | ho
  · exact (Array.getElem?_eq_some_iff.1 h.obj).1
  · obtain ⟨es, cl, hb⟩ := h.map.block
    exact (Array.getElem?_eq_some_iff.1 hb).1
  · obtain ⟨cu, fu, hg⟩ := own_type h.row g ho
    exact (Array.getElem?_eq_some_iff.1 hg).1
theorem dcrash (w0 w : World) (p b q : Nat) (x : Dk) (k : Nat) (h : Dsk w0 p b q x k) (hu : Up w0 w) (hw : Wf x k) (v : Value) (zs : List Int) (hv : SlI w v zs) (hz : ∀ j, I64 (zs.getD j 0)) (hzn : zs.length ≤ 100000) (hsep : ∀ g, Value.blk v = some g → 0 < zs.length → g < q ∨ w0.heap.size ≤ g) :
    Calls Try.prog 20 #[.pointer (some ⟨p, 0, none⟩), v] w (fun e w' => (∃ u, e = .returned u) ∧ Dsk w' p b q (crashI x zs) k ∧ Chg (fun j => q ≤ j) w w') := by
  obtain ⟨m, sv, ss, C, h1, h2, h3⟩ := h
  refine (crash_any w p b m sv ss C x (h1.up hu) hw.num v zs hv hz hzn (fun g hg h0 ho => ?_)).mono ?_
  · have e1 := h3 g ho
    have e2 := own_lt h1 g ho
    rcases hsep g hg h0 with h | h <;> omega
  rintro e w' ⟨hu, ss', hd', hc⟩
  exact ⟨hu, ⟨0, sv, ss', _, hd', by omega, h3⟩, hc.mono (fun j _ hj => h3 j hj)⟩
theorem darm (w : World) (p b q : Nat) (x : Dk) (k : Nat) (h : Dsk w p b q x k) (n : Int) :
    Calls Try.prog 14 #[.pointer (some ⟨p, 0, none⟩), .int .i64 n] w (fun e w' => (∃ u, e = .returned u) ∧ Dsk w' p b q { x with left := max n (-1) } k ∧ Chg (fun j => q ≤ j) w w') := by
  obtain ⟨m, sv, ss, C, h1, h2, h3⟩ := h
  refine (arm_any w p b m sv ss C x h1 n).mono ?_
  rintro e w' ⟨hu, hd', hc⟩
  exact ⟨hu, ⟨m, sv, ss, C, hd', h2, h3⟩, hc.mono (fun j _ hj => h3 j (.inl hj))⟩
theorem ddown (w : World) (p b q : Nat) (x : Dk) (k : Nat) (h : Dsk w p b q x k) : Calls Try.prog 15 #[.pointer (some ⟨p, 0, none⟩)] w (fun e w' => e = .returned (.bool x.down) ∧ w' = w) := by
  obtain ⟨m, sv, ss, C, h1, h2, h3⟩ := h
  exact down_any w p b m sv ss C x h1
theorem ddone (w : World) (p b q : Nat) (x : Dk) (k : Nat) (h : Dsk w p b q x k) : Calls Try.prog 19 #[.pointer (some ⟨p, 0, none⟩)] w (fun e w' => e = .returned (.int .i64 x.done) ∧ w' = w) := by
  obtain ⟨m, sv, ss, C, h1, h2, h3⟩ := h
  exact done_any w p b m sv ss C x h1
theorem dsize (w : World) (p b q : Nat) (x : Dk) (k : Nat) (h : Dsk w p b q x k) : Calls Try.prog 58 #[.pointer (some ⟨p, 0, none⟩)] w (fun e w' => e = .returned (.int .i64 x.size) ∧ w' = w) := by
  obtain ⟨m, sv, ss, C, h1, h2, h3⟩ := h
  exact size_any w p b m sv ss C x h1
/-- New, of a good form. -/
theorem dnew (w : World) (n size : Nat) (h : FormOk n size) : Calls Try.prog 11 #[.int .i64 n, .int .i64 size] w (fun e w' => ∃ p b, e = .returned (.pointer (some ⟨p, 0, none⟩)) ∧ Dsk w' p b w.heap.size (freshI n size) 0 ∧ Below w.heap.size w w') := by
  have h' := h
  unfold FormOk at h'
  refine (new_any w n size ⟨by omega, by omega⟩ ⟨by omega, by omega⟩).mono ?_
  rintro e w' (⟨hn, _⟩ | ⟨_, p, b, sv, ss, rfl, hd, hb, ho⟩)
  · exact absurd h hn
  · rw [Int.toNat_natCast, Int.toNat_natCast] at hd
    exact ⟨p, b, rfl, ⟨0, sv, ss, _, hd, Nat.le_refl _, ho⟩, hb⟩
end Go.Proofs.Ytkndnlhlglgmfaa
