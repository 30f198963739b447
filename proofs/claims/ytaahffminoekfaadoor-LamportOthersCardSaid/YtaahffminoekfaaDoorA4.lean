/-
     
-/
import Derived.Test.YtaahffminoekfaaDoorProg
import Derived.WalkKit
import Derived.Deep.QuietTactic
import Derived.BigQuiet
import Derived.Lib.Hide
import Derived.KernelRfl
import Derived.Test.YtaahffminoekfaaDoorB
import Derived.Laws.MakeOwn
import Derived.Laws.CopyOwn
import Derived.Deep.WholeRow
import Derived.Test.YtaahffminoekfaaDoorC
import Derived.WalkSpells
import Derived.StillTailTactics
namespace Go.Proofs.YtaahffminoekfaaDoor
open Go.RowKit

/-- A word turned to the right. -/
def rotI (x : Int) (n : Nat) : Int := bits .or .u32 (x * (2 ^ (32 - n) : Nat) % 4294967296) (x / (2 ^ n : Nat))

theorem right_any (x : Int) (n : Int) (w : World) (_h0 : 0 ≤ x) (_h1 : x < 4294967296) (hn : n = 2 ∨ n = 6 ∨ n = 7 ∨ n = 11 ∨ n = 13 ∨ n = 17 ∨ n = 18 ∨ n = 19 ∨ n = 22 ∨ n = 25) :
    Calls Tryd.prog 81 #[.int .u32 x, .int .i64 n] w fun e w' => e = .returned (.int .u32 (rotI x n.toNat)) ∧ w' = w := by
  have r2 : bits BinOp.and IntKind.u64 (IntKind.u64.wrap (-2)) 31 = 30 := by decide
  have r6 : bits BinOp.and IntKind.u64 (IntKind.u64.wrap (-6)) 31 = 26 := by decide
  have r7 : bits BinOp.and IntKind.u64 (IntKind.u64.wrap (-7)) 31 = 25 := by decide
  have r11 : bits BinOp.and IntKind.u64 (IntKind.u64.wrap (-11)) 31 = 21 := by decide
  have r13 : bits BinOp.and IntKind.u64 (IntKind.u64.wrap (-13)) 31 = 19 := by decide
  have r17 : bits BinOp.and IntKind.u64 (IntKind.u64.wrap (-17)) 31 = 15 := by decide
  have r18 : bits BinOp.and IntKind.u64 (IntKind.u64.wrap (-18)) 31 = 14 := by decide
  have r19 : bits BinOp.and IntKind.u64 (IntKind.u64.wrap (-19)) 31 = 13 := by decide
  have r22 : bits BinOp.and IntKind.u64 (IntKind.u64.wrap (-22)) 31 = 10 := by decide
  have r25 : bits BinOp.and IntKind.u64 (IntKind.u64.wrap (-25)) 31 = 7 := by decide
  rcases hn with rfl | rfl | rfl | rfl | rfl | rfl | rfl | rfl | rfl | rfl
  all_goals
    go_enter Tryd.func81, Tryd.ntmps81
    go_wp2
    go_ret
    exact ⟨by rfl, rfl⟩

/-- Four bytes, the highest first. -/
def word4 (a b c d : Int) : Int := bits .or .u32 (bits .or .u32 (bits .or .u32 (a * 16777216) (b * 65536)) (c * 256)) d
theorem word_any (b off len cap : Nat) (x0 x1 x2 x3 : Int) (w : World) (hl : 4 ≤ (len : Int))
    (c0 : w.cell? ⟨b, off, none⟩ = some (.int .u8 x0)) (c1 : w.cell? ⟨b, off + 1, none⟩ = some (.int .u8 x1))
    (c2 : w.cell? ⟨b, off + 2, none⟩ = some (.int .u8 x2)) (c3 : w.cell? ⟨b, off + 3, none⟩ = some (.int .u8 x3))
    (b0 : 0 ≤ x0 ∧ x0 ≤ 255) (b1 : 0 ≤ x1 ∧ x1 ≤ 255) (b2 : 0 ≤ x2 ∧ x2 ≤ 255) (b3 : 0 ≤ x3 ∧ x3 ≤ 255) :
    Calls Tryd.prog 80 #[.slice (some ⟨b, off, none⟩) len cap] w fun e w' => e = .returned (.int .u32 (word4 x0 x1 x2 x3)) ∧ ∃ n, w' = w.drewN n := by
  go_enter Tryd.func80, Tryd.ntmps80
  go_wp2_with fail
  go_quiet (fail)
  go_wp2
  go_ret
  exact ⟨by rfl, nq, rfl⟩
end Go.Proofs.YtaahffminoekfaaDoor
namespace Go.Proofs.YtaahffminoekfaaDoor
open Go.RowKit
def u32s (l : List Int) : List Value := l.map (.int .u32)
def sig0 (x : Int) : Int := bits .xor .u32 (bits .xor .u32 (rotI x 7) (rotI x 18)) (x / 8)
def sig1 (x : Int) : Int := bits .xor .u32 (bits .xor .u32 (rotI x 17) (rotI x 19)) (x / 1024)
def nextW (B l : List Int) (k : Nat) : Int :=
  if k < 16 then word4 (B.getD (4 * k) 0) (B.getD (4 * k + 1) 0) (B.getD (4 * k + 2) 0) (B.getD (4 * k + 3) 0)
  else (sig1 (l.getD (k - 2) 0) + l.getD (k - 7) 0 + sig0 (l.getD (k - 15) 0) + l.getD (k - 16) 0) % 4294967296
def sched (B : List Int) : Nat → List Int
  | 0 => []
  | k + 1 => sched B k ++ [nextW B (sched B k) k]
theorem sched_len (B : List Int) (k : Nat) : (sched B k).length = k := by induction k with
  | zero => rfl
  | succ k ih => simp [sched, ih]
def wcells (B : List Int) (k : Nat) : Array Value := (u32s (sched B k ++ List.replicate (64 - k) 0)).toArray

theorem wcells_size (B : List Int) (k : Nat) (h : k ≤ 64) : (wcells B k).size = 64 := by
  simp [wcells, u32s, sched_len]; omega
theorem wcells_at (B : List Int) (k j : Nat) (h : j < k) : (wcells B k)[j]? = some (.int .u32 ((sched B k).getD j 0)) := by
  have h1 : j < (sched B k).length := by rw [sched_len]; exact h
  have h2 : (List.map (Value.int IntKind.u32) (sched B k))[j]? = some (Value.int IntKind.u32 (sched B k)[j]) := by simp [h1]
  simp [wcells, u32s, h1, List.getElem?_append_left]
theorem wcells_zero (B : List Int) (k : Nat) (h : k < 64) : (wcells B k)[k]? = some (.int .u32 0) := by
  simp [wcells, u32s, List.getElem?_append_right, sched_len, List.getElem?_replicate]; omega
theorem wcells_set (B : List Int) (k : Nat) (h : k < 64) : (wcells B k).setIfInBounds k (.int .u32 (nextW B (sched B k) k)) = wcells B (k + 1) := by
  apply Array.ext'
  simp only [wcells, u32s, sched, List.map_append, Array.toList_setIfInBounds]
  rw [List.set_append_right _ _ (by simp [sched_len]), show 64 - k = (64 - (k + 1)) + 1 from by omega, List.replicate_succ]
  simp [sched_len]
/-- The eight numbers. -/
structure St where
  (a b c d e f g h : Int)
def stcells (s : St) : Array Value := #[.int .u32 s.a, .int .u32 s.b, .int .u32 s.c, .int .u32 s.d, .int .u32 s.e, .int .u32 s.f, .int .u32 s.g, .int .u32 s.h]
def tableI : List Int := [1116352408, 1899447441, 3049323471, 3921009573, 961987163, 1508970993, 2453635748, 2870763221, 3624381080, 310598401, 607225278, 1426881987, 1925078388, 2162078206, 2614888103, 3248222580, 3835390401, 4022224774, 264347078, 604807628, 770255983, 1249150122, 1555081692, 1996064986, 2554220882, 2821834349, 2952996808, 3210313671, 3336571891, 3584528711, 113926993, 338241895, 666307205, 773529912, 1294757372, 1396182291, 1695183700, 1986661051, 2177026350, 2456956037, 2730485921, 2820302411, 3259730800, 3345764771, 3516065817, 3600352804, 4094571909, 275423344, 430227734, 506948616, 659060556, 883997877, 958139571, 1322822218, 1537002063, 1747873779, 1955562222, 2024104815, 2227730452, 2361852424, 2428436474, 2756734187, 3204031479, 3329325298]
def Word (x : Int) : Prop := 0 ≤ x ∧ x < 4294967296
structure St.ok (s : St) : Prop where
  (a : Word s.a) (b : Word s.b) (c : Word s.c) (d : Word s.d) (e : Word s.e) (f : Word s.f) (g : Word s.g) (h : Word s.h)
def t1f (s : St) (k w : Int) : Int :=
  s.h + bits .xor .u32 (bits .xor .u32 (rotI s.e 6) (rotI s.e 11)) (rotI s.e 25) + bits .xor .u32 (bits .and .u32 s.e s.f) (bits .and .u32 (bits .xor .u32 IntKind.u32.max s.e) s.g) + k + w
def t2f (s : St) : Int :=
  bits .xor .u32 (bits .xor .u32 (rotI s.a 2) (rotI s.a 13)) (rotI s.a 22) + bits .xor .u32 (bits .xor .u32 (bits .and .u32 s.a s.b) (bits .and .u32 s.a s.c)) (bits .and .u32 s.b s.c)
/-- One round. -/
def rnd (s : St) (k w : Int) : St := ⟨(t1f s k w + t2f s) % 4294967296, s.a, s.b, s.c, (s.d + t1f s k w) % 4294967296, s.e, s.f, s.g⟩
theorem word_mod (x : Int) : Word (x % 4294967296) := by unfold Word; omega
theorem rnd_ok (s : St) (k w : Int) (h : s.ok) : (rnd s k w).ok := ⟨word_mod _, h.a, h.b, h.c, word_mod _, h.e, h.f, h.g⟩
theorem copy_shift (X : World) (N : Nat) (a b c d e f g h : Int) :
    (Builtin.copy_ #[78, 78] 3 #[.slice (some ⟨X.heap.size, 1, none⟩) 7 7, .slice (some ⟨X.heap.size, 0, none⟩) 7 8]).run Tryd.prog
      ((X.alloc (.cells #[.int .u32 a, .int .u32 b, .int .u32 c, .int .u32 d, .int .u32 e, .int .u32 f, .int .u32 g, .int .u32 h] 84)).drewN N) =
      .ok (.int .i64 7) ((X.alloc (.cells #[.int .u32 a, .int .u32 a, .int .u32 b, .int .u32 c, .int .u32 d, .int .u32 e, .int .u32 f, .int .u32 g] 84)).drewN N) := by
  have hg : ((X.alloc (.cells #[.int .u32 a, .int .u32 b, .int .u32 c, .int .u32 d, .int .u32 e, .int .u32 f, .int .u32 g, .int .u32 h] 84)).drewN N).heap[X.heap.size]? =
      some (.cells #[.int .u32 a, .int .u32 b, .int .u32 c, .int .u32 d, .int .u32 e, .int .u32 f, .int .u32 g, .int .u32 h] 84 (0, 0)) := heap_alloc_last X _
  have := run_copy_row (P := Tryd.prog) _ 78 78 3 71 X.heap.size 1 7 7 ⟨X.heap.size, 0, none⟩ 7 8 _ 84
    [.int .u32 a, .int .u32 b, .int .u32 c, .int .u32 d, .int .u32 e, .int .u32 f, .int .u32 g] Tryd.underlying78 (by kernel_rfl) hg rfl (fun j v hv => by
      have hadd : (⟨X.heap.size, 0, none⟩ : Addr).add j = ⟨X.heap.size, j, none⟩ := by unfold Addr.add; split <;> simp_all
      rw [hadd, cell_of_row _ _ _ _ _ _ hg, ← hv]
      have hj : j < 7 := by simpa using (List.getElem?_eq_some_iff.1 hv).1
      match j, hj with
      | 0, _ | 1, _ | 2, _ | 3, _ | 4, _ | 5, _ | 6, _ => rfl) (by simp) (by simp [Value.oneCell'])
  rw [this]
  have e : ∀ A C, ((X.alloc (.cells A 84)).drewN N).setRow X.heap.size C = (X.alloc (.cells C 84)).drewN N := fun A C => by
    rw [← World.setRow_alloc_new X A C 84]; rfl
  rw [e]; rfl
theorem quiet_add_same {P : Program} {f : FuncId} {args : Array Value} {w : World} {a n : Nat} {v : Value}
    (h : Calls P f args (w.drewN (a + n)) fun e w' => e = .returned v ∧ w' = w.drewN (a + n)) :
    Calls P f args (w.drewN (a + n)) fun e w'' => e = .returned v ∧ ∃ m, w'' = w.drewN (a + m) :=
  h.mono fun _ _ ⟨he, hm⟩ => ⟨he, n, hm⟩
def rounds (W : List Int) (s : St) : Nat → St
  | 0 => s
  | k + 1 => rnd (rounds W s k) (tableI.getD k 0) (W.getD k 0)
theorem rounds_ok (W : List Int) (s : St) (h : s.ok) : ∀ k, (rounds W s k).ok
  | 0 => h
  | k + 1 => rnd_ok _ _ _ (rounds_ok W s h k)
theorem wrap_bd (n : Int) : 0 ≤ IntKind.u32.wrap n ∧ IntKind.u32.wrap n < 4294967296 := by rw [IntKind.wrap_u32]; omega
theorem bits_bd (op : BinOp) (x y : Int) : 0 ≤ bits op .u32 x y ∧ bits op .u32 x y < 4294967296 := wrap_bd _
theorem word4_bd (a b c d : Int) : 0 ≤ word4 a b c d ∧ word4 a b c d < 4294967296 := bits_bd _ _ _
theorem nextW_bd (B l : List Int) (k : Nat) : 0 ≤ nextW B l k ∧ nextW B l k < 4294967296 := by
  unfold nextW; split
  · exact word4_bd _ _ _ _
  · omega
theorem sched_bd (B : List Int) (k j : Nat) : 0 ≤ (sched B k)[j]?.getD 0 ∧ (sched B k)[j]?.getD 0 < 4294967296 := by
  induction k with
  | zero => simp [sched]
  | succ k ih =>
    simp only [sched, List.getElem?_append, sched_len]
    split
    · exact ih
    · have := nextW_bd B (sched B k) k
      cases h : j - k with
      | zero => simpa using this
      | succ m => simp
def stget (s : St) : Nat → Int
  | 0 => s.a | 1 => s.b | 2 => s.c | 3 => s.d | 4 => s.e | 5 => s.f | 6 => s.g | _ => s.h
def addSt (s r : St) : St := ⟨(s.a + r.a) % 4294967296, (s.b + r.b) % 4294967296, (s.c + r.c) % 4294967296, (s.d + r.d) % 4294967296, (s.e + r.e) % 4294967296, (s.f + r.f) % 4294967296, (s.g + r.g) % 4294967296, (s.h + r.h) % 4294967296⟩
/-- What a block makes of the numbers. -/
def blockSt (B : List Int) (s : St) : St := addSt s (rounds (sched B 64) s 64)
def stup (s r : St) (k : Nat) : Array Value := ((List.range 8).map fun j => Value.int .u32 (if j < k then (stget s j + stget r j) % 4294967296 else stget s j)).toArray
def upd (w : World) (p : Nat) (s r : St) : Nat → World
  | 0 => w
  | k + 1 => (upd w p s r k).setCell ⟨p, k, none⟩ (.int .u32 ((stget s k + stget r k) % 4294967296))
theorem upd_size (w : World) (p : Nat) (s r : St) (k : Nat) : (upd w p s r k).heap.size = w.heap.size := by
  induction k with
  | zero => rfl
  | succ k ih => simp [upd, World.setCell, ih]
theorem upd_at (w : World) (p : Nat) (s r : St) (x y : Value) (hp : w.heap[p]? = some (.cells (stcells s ++ #[x, y]) 86 (0, 0))) (k : Nat) (hk : k ≤ 8) :
    (upd w p s r k).heap[p]? = some (.cells (stup s r k ++ #[x, y]) 86 (0, 0)) := by
  induction k with
  | zero => exact hp
  | succ k ih =>
    rw [upd, heap_setCell_same _ _ _ _ _ _ (ih (by omega))]
    match k, hk with
    | 0, _ | 1, _ | 2, _ | 3, _ | 4, _ | 5, _ | 6, _ | 7, _ => rfl
theorem upd_kept (w : World) (p : Nat) (s r : St) (k : Nat) : Chg (· = p) w (upd w p s r k) := by
  induction k with
  | zero => exact Chg.refl _ _
  | succ k ih => exact ih.setCell ⟨p, k, none⟩ (.inl rfl) _
theorem set_old (X : World) (A C : Obj) (n p i : Nat) (v : Value) (hp : p < X.heap.size) :
    (((X.alloc A).alloc C).drewN n).setCell ⟨p, i, none⟩ v = (((X.setCell ⟨p, i, none⟩ v).alloc A).alloc C).drewN n := by
  have e1 : ((X.alloc A).alloc C).setCell ⟨p, i, none⟩ v = ((X.setCell ⟨p, i, none⟩ v).alloc A).alloc C := by
    rw [World.setCell_alloc_past _ _ _ _ (by rw [World.size_alloc]; omega), World.setCell_alloc_past _ _ _ _ hp]
  rw [← e1]; rfl
theorem set_new (w : World) (c : Array Value) (t : TypeId) (n i : Nat) (v : Value) :
    ((w.alloc (.cells c t)).drewN n).setCell ⟨w.heap.size, i, none⟩ v = (w.alloc (.cells (c.setIfInBounds i v) t)).drewN n := by
  have h : ((w.alloc (.cells c t))).setCell ⟨w.heap.size, i, none⟩ v = (w.alloc (.cells (c.setIfInBounds i v) t)) := World.setCell_alloc_at _ _ _ _ _ rfl
  rw [← h]; rfl
theorem set_new_at (w : World) (c : Array Value) (t : TypeId) (n i g : Nat) (v : Value) (hg : g = w.heap.size) :
    ((w.alloc (.cells c t)).drewN n).setCell ⟨g, i, none⟩ v = (w.alloc (.cells (c.setIfInBounds i v) t)).drewN n := by
  subst hg; exact set_new w c t n i v
theorem getD_bounds {B : List Int} (hr : ∀ j, 0 ≤ B.getD j 0 ∧ B.getD j 0 ≤ 255) (j : Nat) : 0 ≤ B.getD j 0 ∧ B.getD j 0 ≤ 255 := hr j

theorem rounds_succ (W : List Int) (s : St) (k : Nat) : rounds W s (k + 1) = rnd (rounds W s k) (tableI.getD k 0) (W.getD k 0) := rfl
theorem rounds_zero (W : List Int) (s : St) : rounds W s 0 = s := rfl
theorem wcells_start (B : List Int) : wcells B 0 = (List.replicate 64 (Value.int .u32 0)).toArray := rfl
attribute [irreducible] sched rounds
set_option maxRecDepth 100000 in
set_option maxHeartbeats 2000000 in
theorem block_any (p b off len cap : Nat) (s : St) (nn : Int) (rest : Value) (B : List Int) (w : World) (hl : 64 ≤ (len : Int)) (hcap : (len : Int) ≤ cap) (hcapm : (cap : Int) ≤ 9223372036854775807) (hB : B.length = 64)
    (hb : ∀ j, j < 64 → w.cell? ⟨b, off + j, none⟩ = some (.int .u8 (B.getD j 0)))
    (hr : ∀ j, 0 ≤ B.getD j 0 ∧ B.getD j 0 ≤ 255)
    (ht : ∀ j, j < 64 → w.cell? ⟨1, j, none⟩ = some (.int .u32 (tableI.getD j 0))) (hts : 1 < w.heap.size) (hs : s.ok) (hp : w.heap[p]? = some (.cells (stcells s ++ #[rest, .int .i64 nn]) 86 (0, 0))) :
    Calls Tryd.prog 62 #[.pointer (some ⟨p, 0, none⟩), .slice (some ⟨b, off, none⟩) len cap] w fun e w' => e = .returned (.tuple #[]) ∧ w'.heap[p]? = some (.cells (stcells (blockSt B s) ++ #[rest, .int .i64 nn]) 86 (0, 0)) ∧ Chg (· = p) w w' := by
  have hbs : b < w.heap.size := World.block_lt_of_cell? w ⟨b, off + 0, none⟩ (hb 0 (by omega))
  have hps : p < w.heap.size := (Array.getElem?_eq_some_iff.1 hp).1
  have Hr := Lib.hid hr
  have Hb := Lib.hid hb
  have Hp := Lib.hid hp
  have HB := Lib.hid hB
  have Ht := Lib.hid ht
  have hts0 : 0 < w.heap.size := by omega
  clear hr hb hp hB ht
  go_enter Tryd.func62, Tryd.ntmps62
  go_wp2_with fail
  go_loopw [17] (fun i wr => ∃ k n : Nat, k ≤ 64 ∧ i = .int .i64 k ∧ wr = (w.alloc (.cells (wcells B k) 104)).drewN n) (fun i _ => 64 - (intOf i).toNat)
  case atStart => exact ⟨0, 0, by omega, rfl, by rw [wcells_start]; rfl⟩
  case round =>
    obtain ⟨k, n, hk, rfl, rfl⟩ := hrel
    by_cases hlt : k < 64
    · by_cases h16 : k < 16
      · go_wp2_with fail
        refine (word_any _ _ _ _ (B.getD (4*k) 0) (B.getD (4*k+1) 0) (B.getD (4*k+2) 0) (B.getD (4*k+3) 0) _ (by omega) ?_ ?_ ?_ ?_ (Hr.out _) (Hr.out _) (Hr.out _) (Hr.out _)).mono ?_
        case refine_1 => go_simp; exact Hb.out (4 * k) (by omega)
        case refine_2 => go_simp; exact Hb.out (4 * k + 1) (by omega)
        case refine_3 => go_simp; exact Hb.out (4 * k + 2) (by omega)
        case refine_4 => go_simp; exact Hb.out (4 * k + 3) (by omega)
        rintro e w' ⟨rfl, m, rfl⟩
        have hz := wcells_zero B k hlt
        go_wp2
        go_roundw
        case rel =>
          refine ⟨k + 1, n + m, by omega, by go_num, ?_⟩
          rw [set_new, ← wcells_set B k hlt, nextW, if_pos h16]
          simp only [List.getD_eq_getElem?_getD]
        case measure => simp [intOf]; omega
      · have e15 := wcells_at B k (k - 15) (by omega)
        have e2 := wcells_at B k (k - 2) (by omega)
        have e7 := wcells_at B k (k - 7) (by omega)
        have e16 := wcells_at B k (k - 16) (by omega)
        have hz := wcells_zero B k hlt
        go_wp2_with fail
        go_quiet (fail)
        obtain ⟨x0, x1⟩ := sched_bd B k (k - 15)
        obtain ⟨y0, y1⟩ := sched_bd B k (k - 2)
        go_wp2_with (go_at_call 81; refine (right_any _ _ _ (by omega) (by omega) (by decide)).mono ?_; rintro e w' ⟨rfl, rfl⟩)
        go_region
        go_wp2
        go_roundw
        case rel =>
          refine ⟨k + 1, n + nq + 1, by omega, by go_num, ?_⟩
          rw [set_new, ← wcells_set B k hlt, nextW, if_neg h16]
          simp only [List.getD_eq_getElem?_getD]
          rfl
        case measure => simp [intOf]; omega
    · obtain rfl : k = 64 := by omega
      rw [show ((64 : Nat) : Int) = 64 from rfl]
      have c0 : w.cell? ⟨p, 0, none⟩ = some (.int .u32 s.a) := cell_of_row w p 0 _ _ _ Hp.out
      have c1 : w.cell? ⟨p, 1, none⟩ = some (.int .u32 s.b) := cell_of_row w p 1 _ _ _ Hp.out
      have c2 : w.cell? ⟨p, 2, none⟩ = some (.int .u32 s.c) := cell_of_row w p 2 _ _ _ Hp.out
      have c3 : w.cell? ⟨p, 3, none⟩ = some (.int .u32 s.d) := cell_of_row w p 3 _ _ _ Hp.out
      have c4 : w.cell? ⟨p, 4, none⟩ = some (.int .u32 s.e) := cell_of_row w p 4 _ _ _ Hp.out
      have c5 : w.cell? ⟨p, 5, none⟩ = some (.int .u32 s.f) := cell_of_row w p 5 _ _ _ Hp.out
      have c6 : w.cell? ⟨p, 6, none⟩ = some (.int .u32 s.g) := cell_of_row w p 6 _ _ _ Hp.out
      have c7 : w.cell? ⟨p, 7, none⟩ = some (.int .u32 s.h) := cell_of_row w p 7 _ _ _ Hp.out
      go_wp2
      clear c0 c1 c2 c3 c4 c5 c6 c7
      obtain ⟨W, HWe⟩ : ∃ W, Hid (sched B 64 = W) := ⟨_, Lib.hid rfl⟩
      have HW0 : Hid (∀ j, j < 64 → (wcells B 64)[j]? = some (.int .u32 (W.getD j 0))) := Lib.hid (fun j hj => by rw [← HWe.out]; exact wcells_at B 64 j hj)
      generalize wcells B 64 = Wc at *
      go_loopw [73] (fun i wr => ∃ k m : Nat, k ≤ 64 ∧ i = .int .i64 k ∧ wr = ((w.alloc (.cells Wc 104)).alloc (.cells (stcells (rounds W s k)) 84)).drewN m) (fun i _ => 64 - (intOf i).toNat)
      case atStart => exact ⟨0, n, by omega, rfl, by rw [rounds_zero]; rfl⟩
      case round =>
        obtain ⟨k, m, hk2, rfl, rfl⟩ := hrel
        by_cases hlt2 : k < 64
        · obtain ⟨r, Hr2⟩ : ∃ r, Hid (rounds W s k = r) := ⟨_, Lib.hid rfl⟩
          obtain ⟨wk, Hwk⟩ : ∃ wk, Hid (W.getD k 0 = wk) := ⟨_, Lib.hid rfl⟩
          obtain ⟨tk, Htk⟩ : ∃ tk, Hid (tableI.getD k 0 = tk) := ⟨_, Lib.hid rfl⟩
          obtain ⟨ra0, ra1⟩ : Word r.a := by rw [← Hr2.out]; exact (rounds_ok W s hs k).a
          obtain ⟨re0, re1⟩ : Word r.e := by rw [← Hr2.out]; exact (rounds_ok W s hs k).e
          rw [Hr2.out]
          unfold stcells
          have ht2 := Ht.out k hlt2
          have hw2 := HW0.out k hlt2
          rw [Hwk.out] at hw2
          rw [Htk.out] at ht2
          go_wp2_with fail
          go_quiet (fail)
          go_wp2_with fail
          go_quiet ((go_at_call 81; exact quiet_add_same (right_any _ _ _ (by omega) (by omega) (by decide))))
          go_wp2_with fail
          go_quiet ((go_at_call 81; exact quiet_add_same (right_any _ _ _ (by omega) (by omega) (by decide))))
          go_wp2_with fail
          have hcp := fun N => copy_shift (w.alloc (.cells Wc 104)) N r.a r.b r.c r.d r.e r.f r.g r.h
          simp only [World.size_alloc] at hcp
          go_region
          go_wp2
          go_roundw
          case rel =>
            apply Exists.intro (k + 1)
            apply Exists.intro
            refine ⟨by omega, by go_num, ?_⟩
            rw [set_new_at (g := w.heap.size + 1) _ _ _ _ _ _ (by rw [World.size_alloc]), set_new_at (g := w.heap.size + 1) _ _ _ _ _ _ (by rw [World.size_alloc]), rounds_succ, Hr2.out, Hwk.out, Htk.out]
            rfl
          case measure => simp [intOf]; omega
        · obtain rfl : k = 64 := by omega
          rw [show ((64 : Nat) : Int) = 64 from rfl]
          obtain ⟨R, HRe⟩ : ∃ R, Hid (rounds W s 64 = R) := ⟨_, Lib.hid rfl⟩
          rw [HRe.out]
          have HS : Hid (∀ j, j < 8 → (stcells R)[j]? = some (.int .u32 (stget R j))) := Lib.hid (fun j hj => by match j, hj with | 0, _ | 1, _ | 2, _ | 3, _ | 4, _ | 5, _ | 6, _ | 7, _ => rfl)
          generalize stcells R = Sc at *
          go_wp2
          go_loopw [147] (fun i wr => ∃ k m : Nat, k ≤ 8 ∧ i = .int .i64 k ∧ wr = (((upd w p s R k).alloc (.cells Wc 104)).alloc (.cells Sc 84)).drewN m) (fun i _ => 8 - (intOf i).toNat)
          case atStart => exact ⟨0, m, by omega, rfl, rfl⟩
          case round =>
            obtain ⟨k, m, hk3, rfl, rfl⟩ := hrel
            by_cases hlt3 : k < 8
            · have hc1 : (upd w p s R k).cell? ⟨p, k, none⟩ = some (.int .u32 (stget s k)) := by
                rw [cell_of_row _ _ _ _ _ _ (upd_at w p s R rest (.int .i64 nn) Hp.out k hk3)]
                match k, hlt3 with | 0, _ | 1, _ | 2, _ | 3, _ | 4, _ | 5, _ | 6, _ | 7, _ => rfl
              have hf1 : (upd w p s R k).frozen? ⟨p, k, none⟩ = false := frozen_of_row _ _ _ _ _ (upd_at w p s R rest (.int .i64 nn) Hp.out k hk3)
              have hc2 := HS.out k hlt3
              have hus : Hid ((upd w p s R k).heap.size = w.heap.size) := Lib.hid (upd_size w p s R k)
              have hc2 : (((upd w p s R k).alloc (.cells Wc 104)).alloc (.cells Sc 84)).cell? ⟨w.heap.size + 1, k, none⟩ = some (.int .u32 (stget R k)) := by
                rw [World.cell?_alloc_at _ _ _ _ (by rw [World.size_alloc, hus.out])]; exact hc2
              have hup : p < (upd w p s R k).heap.size := by rw [hus.out]; exact hps
              go_wp2_with fail
              go_region
              go_wp2
              go_roundw
              case rel =>
                apply Exists.intro (k + 1)
                apply Exists.intro
                refine ⟨by omega, by go_num, ?_⟩
                rw [set_old _ _ _ _ _ _ _ hup, upd]
              case measure => simp [intOf]; omega
            · obtain rfl : k = 8 := by omega
              go_wp2
              go_end0
              refine ⟨rfl, ?_, ?_⟩
              · have h8 := upd_at w p s R rest (.int .i64 nn) Hp.out 8 (by omega)
                have e1 : ∀ X : World, p < X.heap.size → ((((X.alloc (.cells Wc 104)).alloc (.cells Sc 84)).drewN m)).heap[p]? = X.heap[p]? := fun X hX => by
                  show ((X.alloc _).alloc _).heap[p]? = _
                  rw [heap_alloc_old _ _ (by rw [World.size_alloc]; omega), heap_alloc_old _ _ hX]
                rw [e1 _ (by rw [upd_size]; exact hps), h8, blockSt, HWe.out, HRe.out]
                rfl
              · exact ((((upd_kept w p s R 8).alloc _).alloc _).drewN _)
theorem addSt_ok (s r : St) : (addSt s r).ok := ⟨word_mod _, word_mod _, word_mod _, word_mod _, word_mod _, word_mod _, word_mod _, word_mod _⟩
theorem blockSt_ok (B : List Int) (s : St) : (blockSt B s).ok := addSt_ok _ _
attribute [irreducible] blockSt
end Go.Proofs.YtaahffminoekfaaDoor
namespace Go.Proofs.YtaahffminoekfaaDoor
open Go.RowKit
def Room (n : Nat) : Prop := n ≤ 140737488355328
def ClonePost (v : Value) (xs : List Int) (w : World) (e : Ending) (w' : World) : Prop :=
  ∃ v', e = .returned v' ∧ w'.ownsRow w.heap.size 5 1 v' xs.length (u8s xs) ∧ Below w.heap.size w w' ∧ (v' = .slice none 0 0 ↔ v = .slice none 0 0)
set_option maxRecDepth 100000 in
/-- bytes.Clone. -/
theorem clone_any (v : Value) (xs : List Int) (w : World) (hs : SlB w v xs) (hn : Room xs.length) :
    Calls Tryd.prog 63 #[v] w (ClonePost v xs w) := by
  have Hn : Hid (Room xs.length) := Lib.hid hn
  clear hn
  have hq := fun (W : World) (A : Option Addr) (n c : Nat) => Lib.run_eql_slice_nil (P := Tryd.prog) W 22 5 A n c 0 0 Tryd.underlying22
  rcases hs with ⟨rfl, h0, h1⟩ | ⟨ad, c, rfl, hl, hc, hc2, hr⟩
  · go_enter Tryd.func63, Tryd.ntmps63
    go_wp2
    go_ret
    refine ⟨_, rfl, ?_, Below.refl _ _, by simp⟩
    rw [h0, h1]
    exact World.ownsRow_nil _ _ _ _
  · have HS : Hid (Src w (.slice (some ad) xs.length c) 1 xs.length (u8s xs)) := Lib.hid (.inr ⟨ad, c, rfl, hl, hc, hc2, hr⟩)
    clear hl hr
    go_enter Tryd.func63, Tryd.ntmps63
    go_wp2_with (at_builtin; refine ap_own rfl _ _ 22 rfl w.heap.size 5 (.int .u8 0) 1 1 Tryd.underlying22 (by kernel_rfl) rfl (by decide) _ 0 [] rfl ?_ _ rfl xs.length (u8s xs) ?_ (u8s_one xs) (by have := Hn.out; unfold Room at this; omega) (by have := Hn.out; unfold Room at this; omega) (by simp) ?_)
    case refine_1 => exact World.ownsRow_made w #[] 0 (Nat.le_refl _) (by simp [maxLen]) (by simp)
    case refine_2 => exact HS.out.chg ((Chg.refl (fun _ => False) w).alloc _) (fun _ _ _ h => h) (by decide)
    case refine_3 =>
      intro v' w' ho hg hn hb
      go_wp2
      go_ret
      exact ⟨_, rfl, ho, (((Chg.refl (fun _ => False) w).alloc _).then (Chg.of_grownBy hg) (fun i hi => .inr (by simp [Value.ownBlock] at hi; omega))).below_none (fun _ _ h => h), by simpa using hn⟩
end Go.Proofs.YtaahffminoekfaaDoor
namespace Go.Proofs.YtaahffminoekfaaDoor
open Go.RowKit
def beginSt : St := ⟨1779033703, 3144134277, 1013904242, 2773480762, 1359893119, 2600822924, 528734635, 1541459225⟩
def blockAt (L : List Int) (k : Nat) : List Int := (L.drop (64 * k)).take 64
/-- The numbers behind so many blocks. -/
def stN (L : List Int) : Nat → St
  | 0 => beginSt
  | k + 1 => blockSt (blockAt L k) (stN L k)
theorem stN_zero (L : List Int) : stN L 0 = beginSt := rfl
theorem stN_succ (L : List Int) (k : Nat) : stN L (k + 1) = blockSt (blockAt L k) (stN L k) := rfl
theorem stN_append (L M : List Int) (k : Nat) (h : 64 * k ≤ L.length) : stN (L ++ M) k = stN L k := by
  induction k with
  | zero => rfl
  | succ k ih =>
    rw [stN_succ, stN_succ, ih (by omega)]
    congr 1
    unfold blockAt
    rw [List.drop_append_of_le_length (by omega), List.take_append_of_le_length (by simp; omega)]
theorem stN_ok (L : List Int) (k : Nat) : (stN L k).ok := by
  cases k with
  | zero => rw [stN_zero]; constructor <;> (unfold Word beginSt; decide)
  | succ k => rw [stN_succ]; exact blockSt_ok _ _
attribute [irreducible] stN
def restOf (L : List Int) : List Int := L.drop (64 * (L.length / 64))
theorem restOf_len (L : List Int) : (restOf L).length = L.length % 64 := by simp [restOf]; omega
/-- The library's two tables. -/
structure Laid (w : World) : Prop where
  tab : ∀ j, j < 64 → w.cell? ⟨1, j, none⟩ = some (.int .u32 (tableI.getD j 0))
  beg : ∀ j, j < 8 → w.cell? ⟨0, j, none⟩ = some (.int .u32 (stget beginSt j))
theorem Laid.chg {S : Nat → Prop} {w w' : World} (h : Laid w) (hc : Chg S w w') (h0 : ¬ S 0) (h1 : ¬ S 1) : Laid w' :=
  ⟨fun j hj => hc.cell (h.tab j hj) h1, fun j hj => hc.cell (h.beg j hj) h0⟩
theorem Laid.lt {w : World} (h : Laid w) : 1 < w.heap.size := World.block_lt_of_cell? w ⟨1, 0, none⟩ (h.tab 0 (by decide))
def Bytes (l : List Int) : Prop := ∀ j, 0 ≤ l.getD j 0 ∧ l.getD j 0 ≤ 255
theorem Bytes.append {l m : List Int} (h : Bytes l) (k : Bytes m) : Bytes (l ++ m) := by
  intro j
  rw [List.getD_eq_getElem?_getD, List.getElem?_append]
  split
  · rw [← List.getD_eq_getElem?_getD]; exact h j
  · rw [← List.getD_eq_getElem?_getD]; exact k _
theorem Bytes.drop {l : List Int} (h : Bytes l) (k : Nat) : Bytes (l.drop k) := fun j => by rw [getD_drop]; exact h _
theorem Bytes.take {l : List Int} (h : Bytes l) (k : Nat) : Bytes (l.take k) := fun j => by
  by_cases hj : j < k
  · rw [getD_take _ _ _ hj]; exact h _
  · have : (l.take k).getD j 0 = 0 := by
      rw [List.getD_eq_getElem?_getD, List.getElem?_eq_none (by simp; omega)]; rfl
    rw [this]; omega
/-- A digest of these bytes. -/
structure Dig (w : World) (base p : Nat) (l : List Int) (rv : Value) : Prop where
  cells : w.heap[p]? = some (.cells (stcells (stN l (l.length / 64)) ++ #[rv, .int .i64 (l.length : Int)]) 86 (0, 0))
  row : w.ownsRow base 5 1 rv (l.length % 64) (u8s (restOf l))
  pb : base ≤ p
theorem Dig.apart {w : World} {base p : Nat} {l : List Int} {rv : Value} (h : Dig w base p l rv) : rv.ownBlock ≠ some p := by
  intro he
  rcases h.row.2 with ⟨rfl, _⟩ | ⟨g, cap, cur, rfl, _, hg, _⟩
  · simp [Value.ownBlock] at he
  · simp [Value.ownBlock] at he
    subst he
    have := h.cells
    rw [hg] at this
    injection this with this
    injection this with _ h2
    cases h2
end Go.Proofs.YtaahffminoekfaaDoor
