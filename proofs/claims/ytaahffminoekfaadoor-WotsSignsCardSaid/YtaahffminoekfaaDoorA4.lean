import Derived.Test.YtaahffminoekfaaDoorA3
import Derived.StillTailTactics
namespace Go.Proofs.YtaahffminoekfaaDoor
open Go.RowKit
def beginSt : St := ⟨1779033703, 3144134277, 1013904242, 2773480762, 1359893119, 2600822924, 528734635, 1541459225⟩
def blockAt (L : List Int) (k : Nat) : List Int := (L.drop (64 * k)).take 64
/-- The numbers behind so many blocks. -/
def stN (L : List Int) : Nat → St
  | 0 => beginSt
  | k + 1 => blockSt (blockAt L k) (stN L k)
theorem stN_zero (L : List Int) : stN L 0 = beginSt := rfl
theorem stN_succ (L : List Int) (k : Nat) : stN L (k + 1) = blockSt (blockAt L k) (stN L k) := rfl
theorem stN_append (L M : List Int) (k : Nat) (h : 64 * k ≤ L.length) : stN (L ++ M) k = stN L k := by
  induction k with
  | zero => rfl
  | succ k ih =>
    rw [stN_succ, stN_succ, ih (by omega)]
    congr 1
    unfold blockAt
    rw [List.drop_append_of_le_length (by omega), List.take_append_of_le_length (by simp; omega)]
theorem stN_ok (L : List Int) (k : Nat) : (stN L k).ok := by
  cases k with
  | zero => rw [stN_zero]; constructor <;> (unfold Word beginSt; decide)
  | succ k => rw [stN_succ]; exact blockSt_ok _ _
attribute [irreducible] stN
def restOf (L : List Int) : List Int := L.drop (64 * (L.length / 64))
theorem restOf_len (L : List Int) : (restOf L).length = L.length % 64 := by simp [restOf]; omega
/-- The library's two tables. -/
structure Laid (w : World) : Prop where
  tab : ∀ j, j < 64 → w.cell? ⟨1, j, none⟩ = some (.int .u32 (tableI.getD j 0))
  beg : ∀ j, j < 8 → w.cell? ⟨0, j, none⟩ = some (.int .u32 (stget beginSt j))
theorem Laid.chg {S : Nat → Prop} {w w' : World} (h : Laid w) (hc : Chg S w w') (h0 : ¬ S 0) (h1 : ¬ S 1) : Laid w' :=
  ⟨fun j hj => hc.cell (h.tab j hj) h1, fun j hj => hc.cell (h.beg j hj) h0⟩
theorem Laid.lt {w : World} (h : Laid w) : 1 < w.heap.size := World.block_lt_of_cell? w ⟨1, 0, none⟩ (h.tab 0 (by decide))
def Bytes (l : List Int) : Prop := ∀ j, 0 ≤ l.getD j 0 ∧ l.getD j 0 ≤ 255
theorem Bytes.append {l m : List Int} (h : Bytes l) (k : Bytes m) : Bytes (l ++ m) := by
  intro j
  rw [List.getD_eq_getElem?_getD, List.getElem?_append]
  split
  · rw [← List.getD_eq_getElem?_getD]; exact h j
  · rw [← List.getD_eq_getElem?_getD]; exact k _
theorem Bytes.drop {l : List Int} (h : Bytes l) (k : Nat) : Bytes (l.drop k) := fun j => by rw [getD_drop]; exact h _
theorem Bytes.take {l : List Int} (h : Bytes l) (k : Nat) : Bytes (l.take k) := fun j => by
  by_cases hj : j < k
  · rw [getD_take _ _ _ hj]; exact h _
  · have : (l.take k).getD j 0 = 0 := by
      rw [List.getD_eq_getElem?_getD, List.getElem?_eq_none (by simp; omega)]; rfl
    rw [this]; omega
/-- A digest of these bytes. -/
structure Dig (w : World) (base p : Nat) (l : List Int) (rv : Value) : Prop where
  cells : w.heap[p]? = some (.cells (stcells (stN l (l.length / 64)) ++ #[rv, .int .i64 (l.length : Int)]) 86 (0, 0))
  row : w.ownsRow base 5 1 rv (l.length % 64) (u8s (restOf l))
  pb : base ≤ p
theorem Dig.apart {w : World} {base p : Nat} {l : List Int} {rv : Value} (h : Dig w base p l rv) : rv.ownBlock ≠ some p := by
  intro he
  rcases h.row.2 with ⟨rfl, _⟩ | ⟨g, cap, cur, rfl, _, hg, _⟩
  · simp [Value.ownBlock] at he
  · simp [Value.ownBlock] at he
    subst he
    have := h.cells
    rw [hg] at this
    injection this with this
    injection this with _ h2
    cases h2
end Go.Proofs.YtaahffminoekfaaDoor
