/-
  A range over a function whose rounds all go on: a law; the letters to somebody, one by one.
-/
import Derived.Test.YtofmblkmfbioiaaN25
import Derived.RangeFuncNested
import Derived.RangeFuncBound
import Derived.RangeFuncCalls
import Derived.RangeFuncLeaves
import Derived.RangeFuncBox
import Derived.RangeFuncWrites
import Derived.Shelf.Abstract
import Derived.Shelf.RegionOpen
import Derived.WalkKit
import Derived.OwnWalkIn
import Derived.TacticsInMore
import Derived.LoopNIn
import Derived.LoopIn
import Derived.Maps.AppendAt
import Derived.Lib.Hide
namespace Go.Proofs.Ytofmblkmfbioiaa
open Go.RowKit Go.Shelf
attribute [local go_sem] Oper.semAt_some
/-- What an iterator is worth to a body that always goes on: 'Good' is what holds of what is handed on, when it is handed on. -/
def Iter {α : Type} (m : Nat) (P : Program) (gf : Nat) (lb : Array Value) (encs : α → Array Value) (Good : List α → α → World → Prop) (Kp : World → World → Prop) (S : List α → Prop) (w0 : World) : Prop :=
  ∀ (l : Nat) (J : List α → World → Prop) (W : World), Up w0 W → (∀ s A B, J s A → Up A B → J s B) →
    (∀ pre x W1, J pre W1 → Good pre x W1 → YieldAt Fence.wide (m - 1) P l (encs x) W1 fun e W' => e = .returned (.bool true) ∧ J (pre ++ [x]) W' ∧ Kp W1 W') →
    J [] W → CallsIn Fence.wide m P gf (#[.func (.yield l) #[] #[]] ++ lb) W fun e W' => (∃ v, e = .returned v) ∧ ∃ xs, S xs ∧ J xs W'
/-- What is no cells and lies at or behind B stays. -/
def Stays (B : Nat) (W W' : World) : Prop := W.heap.size ≤ W'.heap.size ∧ ∀ k o, B ≤ k → W.heap[k]? = some o → o.isCells = false → W'.heap[k]? = some o
theorem range_up {α : Type} {n : Nat} {P : Program} {g : Operand} {ps : Array Tmp} {assign body : Code} {Q : Exit → Act → World → Prop} {a : Act} {w : World} (h1 : 1 ≤ n) {gf : Nat} {lb : Array Value} (hg : a.eval g = .func (.func gf) #[] lb)
    (eg : ∀ args w, (callFunc gf args).run P w = .ok (.enter gf args) w) {encs : α → Array Value} {Good : List α → α → World → Prop} {Kp : World → World → Prop} {S : List α → Prop} (hit : Iter (n - 1) P gf lb encs Good Kp S w)
    (hKt : ∀ A B C, Kp A B → Kp B C → Kp A C) (hKu : ∀ A B, Up A B → Kp A B) (hKb : ∀ (W : World) (l : Nat) (o o' : Obj), W.heap[l]? = some o → o.isCells = false → Kp W (W.putObj l o')) (hps : ∀ x, (encs x).size = ps.size)
    (I : List α → World → Prop) (hIu : ∀ s A B, I s A → Up A B → I s B) (hIb : ∀ s (W : World) (l : Nat) (o o' : Obj), I s W → w.heap.size ≤ l → W.heap[l]? = some o → o.isCells = false → I s (W.putObj l o')) (h0 : I [] w)
    (hGu : ∀ pre x A B, Good pre x A → Up A B → Good pre x B) (hGb : ∀ pre x (W : World) (l : Nat) (o o' : Obj), Good pre x W → W.heap[l]? = some o → o.isCells = false → Good pre x (W.putObj l o'))
    (Ax : Act → α → Act → World → Prop) (hAb : ∀ x a' (W : World) (l : Nat) (o o' : Obj), Ax a x a' W → W.heap[l]? = some o → o.isCells = false → Ax a x a' (W.putObj l o'))
    (hassign : ∀ (l : Nat) (pre : List α) (x : α) (W : World) (K : Act → World → Prop), Good pre x W → (∀ a' W', Up W W' → Ax a x a' W' → K a' W') →
      assign.wpIn (Fence.wide.inRound l) (n - 1 - 1) P (Exit.then K (fun _ _ _ => False)) { tmps := (ps.zip (encs x)).foldl (fun t (p, v) => t.setIfInBounds p v) a.tmps, defers := [] } W)
    (hbody : ∀ (l : Nat) (pre : List α) (x : α) (a' : Act) (W : World), I pre W → Good pre x W → Ax a x a' W → body.wpIn (Fence.wide.inRound l) (n - 1 - 1) P (fun e _ W' => e = .normal ∧ Stays w.heap.size W W' ∧ Kp W W' ∧ I (pre ++ [x]) W') a' W)
    (hdone : ∀ (D : Nat) (xs : List α) (W : World), w.heap.size ≤ D → S xs → I xs W → W.heap[D]? = some (.deferred (some [])) → Q .normal { a with defers := { target := .collected D, args := #[] } :: a.defers } W) :
    (Code.rangeFunc g ps assign body).wpIn Fence.wide n P Q a w := by
  refine wpIn_rangeFunc fun fn hfn => ?_
  obtain ⟨rec, hrec⟩ : ∃ rec : LoopState → Loop, rec = fun st => { state := st, pending := none, fn, tmps := a.tmps, params := ps, assign, body, defers := w.heap.size } := ⟨_, rfl⟩
  obtain ⟨V, hV⟩ : ∃ V, V = (w.alloc (.deferred (some []))).alloc (.loop (rec .ready)) := ⟨_, rfl⟩
  have hup : Up w V := by rw [hV]; exact ((Chg.refl _ w).alloc _).alloc _
  have hVl : V.heap[w.heap.size + 1]? = some (.loop (rec .ready)) := by
    rw [hV]; have := heap_alloc_last (w.alloc (.deferred (some []))) (.loop (rec .ready)); rwa [World.size_alloc] at this
  have hVd : V.heap[w.heap.size]? = some (.deferred (some [])) := by rw [hV]; exact ((Chg.refl (fun _ => False) _).alloc _).heap (heap_alloc_last w _) (fun h => h)
  refine ⟨w.heap.size + 1, [{ target := .collected w.heap.size, args := #[] }], V, { target := .fn (.func gf) lb, args := #[.func (.yield (w.heap.size + 1)) #[] #[]] }, V, gf, #[.func (.yield (w.heap.size + 1)) #[] #[]] ++ lb, V, ?_, ?_, fun _ _ => trivial, ?_, fun _ => h1, ?_⟩
  · rw [hV, hrec]; exact run_enterLoop_outer _ _ _ _ _
  · simp only [resolve, hg]
    simp [go_sem]
  · simp [invoke, go_sem, eg]
  refine (hit (w.heap.size + 1) (fun pre W => I pre W ∧ W.heap[w.heap.size + 1]? = some (.loop (rec .ready)) ∧ W.heap[w.heap.size]? = some (.deferred (some []))) V hup
    (fun s A B hs hu => ⟨hIu s A B hs.1 hu, hu.heap hs.2.1 (fun h => h), hu.heap hs.2.2 (fun h => h)⟩) ?_ ⟨hIu _ _ _ h0 hup, hVl, hVd⟩).mono ?_
  · rintro pre x W ⟨hi, hl, hd⟩ hgood
    have hy := run_yield (P := P) (args := encs x) hl (by rw [hrec]; exact hps x)
    rw [hrec] at hy
    refine ⟨fn, _, assign, body, hy, roundIn_of_wpIn hfn (hassign _ pre x W _ hgood fun a' W2 hu2 hax => ?_)⟩
    have hl2 := hu2.heap hl (fun h => h)
    have hd2 := hu2.heap hd (fun h => h)
    refine ⟨_, run_beginRound hl2 (by rw [hrec]), ?_⟩
    have hlt2 := (Array.getElem?_eq_some_iff.1 hl2).1
    obtain ⟨W3, hW3⟩ : ∃ W3, W3 = W2.putObj (w.heap.size + 1) (.loop { rec .ready with state := .busy }) := ⟨_, rfl⟩
    have hl3 : W3.heap[w.heap.size + 1]? = some (.loop { rec .ready with state := .busy }) := by rw [hW3]; exact World.putObj_heap_same hlt2
    have hd3 : W3.heap[w.heap.size]? = some (.deferred (some [])) := by rw [hW3]; exact (World.putObj_heap_other (by omega)).trans hd2
    have hk3 : Kp W W3 := hKt _ _ _ (hKu _ _ hu2) (by rw [hW3]; exact hKb _ _ _ _ hl2 rfl)
    rw [← hW3]
    refine wpIn_mono (hbody _ pre x a' W3 (by rw [hW3]; exact hIb _ _ _ _ _ (hIu _ _ _ hi hu2) (by omega) hl2 rfl) (by rw [hW3]; exact hGb _ _ _ _ _ _ (hGu _ _ _ _ hgood hu2) hl2 rfl) (by rw [hW3]; exact hAb _ _ _ _ _ _ hax hl2 rfl)) ?_
    rintro e a4 W4 ⟨rfl, hst, hk4, hi4⟩
    have hl4 := hst.2 _ _ (by omega) hl3 rfl
    have hd4 := hst.2 _ _ (Nat.le_refl _) hd3 rfl
    have hr := run_endRound (P := P) none hl4
    have hlt4 := (Array.getElem?_eq_some_iff.1 hl4).1
    have hfin : (W4.putObj (w.heap.size + 1) (.loop { { rec .ready with state := .busy } with state := .ready, pending := none })).heap[w.heap.size + 1]? = some (.loop (rec .ready)) := by
      rw [World.putObj_heap_same hlt4, hrec]
    exact ⟨_, _, hr, rfl, ⟨hIb _ _ _ _ _ hi4 (by omega) hl4 rfl, hfin, (World.putObj_heap_other (by omega)).trans hd4⟩, hKt _ _ _ hk3 (hKt _ _ _ hk4 (hKb _ _ _ _ hl4 rfl))⟩
  · rintro e W2 ⟨⟨v, rfl⟩, xs, hS, hi, hl, hd⟩
    have hr := run_endLoop (P := P) hl (by rw [hrec]; simp)
    rw [hrec] at hr
    exact ⟨none, _, hr, hdone _ xs _ (Nat.le_refl _) hS (hIb _ _ _ _ _ hi (by omega) hl rfl) ((World.putObj_heap_other (by omega)).trans hd)⟩
/-- The cells stay, but for a block of numbers. -/
def KeepBut (g12 : Nat) (A B : World) : Prop := A.heap.size ≤ B.heap.size ∧ ∀ (k : Nat) (cur : Array Value) (t : TypeId) (fr : Nat × Nat), A.heap[k]? = some (.cells cur t fr) → (t ≠ 3 ∨ k ≠ g12) → B.heap[k]? = some (.cells cur t fr)
theorem KeepBut.trans (g12 : Nat) (A B C : World) (h : KeepBut g12 A B) (k : KeepBut g12 B C) : KeepBut g12 A C := ⟨Nat.le_trans h.1 k.1, fun i cur t fr hi ht => k.2 i cur t fr (h.2 i cur t fr hi ht) ht⟩
theorem KeepBut.up (g12 : Nat) (A B : World) (h : Up A B) : KeepBut g12 A B := ⟨h.size, fun _ _ _ _ hi _ => h.heap hi (fun h => h)⟩
theorem KeepBut.putObj (g12 : Nat) (W : World) (l : Nat) (o o' : Obj) (hl : W.heap[l]? = some o) (ho : o.isCells = false) : KeepBut g12 W (W.putObj l o') := ⟨by simp [World.putObj], fun k cur t fr hk _ => (World.putObj_heap_other (fun e => by subst e; rw [hl] at hk; cases hk; cases ho)).trans hk⟩
theorem own_keep {g12 : Nat} {A B : World} {base n s : Nat} {e : TypeId} {v : Value} {xs : List Value} (h : A.ownsRow base e s v n xs) (k : KeepBut g12 A B) (he : e ≠ 3) : B.ownsRow base e s v n xs := by
  refine ⟨h.1, ?_⟩
  rcases h.2 with hn | ⟨g, cap, cur, rfl, hb, hg, hr⟩
  · exact .inl hn
  · exact .inr ⟨g, cap, cur, rfl, hb, k.2 _ _ _ _ hg (.inl he), hr⟩
theorem Chg.putObj {S : Nat → Prop} {a w : World} (h : Chg S a w) (l : Nat) (hl : S l ∨ a.heap.size ≤ l) (o : Obj) : Chg S a (w.putObj l o) :=
  ⟨h.os, h.tape, h.output, by simpa [World.putObj] using h.size, fun i hi hs => (World.putObj_heap_other (fun e => by subst e; rcases hl with hl | hl; exact hs hl; omega)).trans (h.block i hi hs)⟩
theorem Stays.of_chg {B : Nat} {S : Nat → Prop} {W W' : World} (h : Chg S W W') (hS : ∀ k o, S k → W.heap[k]? = some o → o.isCells = true) : Stays B W W' :=
  ⟨h.size, fun k o _ hk ho => h.heap hk (fun hs => by rw [hS k o hs hk] at ho; cases ho)⟩
end Go.Proofs.Ytofmblkmfbioiaa
