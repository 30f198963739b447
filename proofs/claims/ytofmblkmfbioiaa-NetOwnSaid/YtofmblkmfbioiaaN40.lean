/-
  The law 'NetOwn', walked.
-/
import Derived.Test.YtofmblkmfbioiaaN38
import Derived.Test.YtofmblkmfbioiaaN39
namespace Go.Proofs.Ytofmblkmfbioiaa
open Go.RowKit
/-- Two nets and a list of letters, each with memory of its own. -/
structure Twain (w : World) (p q : Nat) (L ms : List Let) (s sm : Int) (lv lm xv : Value) (W : World) : Prop where
  net : ∃ ds, NetAt W p lv ds L s
  oth : ∃ ds, NetAt W q lm ds ms sm
  ref : XAt W 0 xv L
  chg : Chg (fun i => w.heap.size ≤ i) w W
  lv_ge : ∀ g, lv.ownBlock = some g → w.heap.size ≤ g
  lm_ge : ∀ g, lm.ownBlock = some g → w.heap.size ≤ g
  xv_ge : ∀ g, xv.ownBlock = some g → w.heap.size ≤ g
  ne : ∀ g, lv.ownBlock = some g → lm.ownBlock ≠ some g
theorem Twain.up {w : World} {p q : Nat} {L ms : List Let} {s sm : Int} {lv lm xv : Value} {W W' : World} (h : Twain w p q L ms s sm lv lm xv W) (hu : Up W W') : Twain w p q L ms s sm lv lm xv W' := by
  obtain ⟨⟨ds, h1⟩, ⟨dm, h2⟩, h3, h4, h5, h6, h7, h8⟩ := h
  exact ⟨⟨ds, h1.up hu⟩, ⟨dm, h2.up hu⟩, own_chg h3 hu (fun _ _ h => h), h4.then hu (fun _ h => h.elim), h5, h6, h7, h8⟩
/-- The first net's call. -/
theorem Twain.one {w : World} {p q : Nat} {L ms : List Let} {s sm : Int} {lv lm xv : Value} {W : World} (h : Twain w p q L ms s sm lv lm xv W) (hpq : p ≠ q) (hpw : w.heap.size ≤ p) (hn : L.length < 1024) (hf : Few L) (hs0 : 0 ≤ s) (hs1 : s ≤ 1000000) (o : OpI) (d : Value) (hd : SlB W d o.dat) (hnx : o.dat.length ≤ 1000)
    (hdl : ∀ b, Value.blk d = some b → 0 < o.dat.length → b < w.heap.size) :
    Calls Try.prog 15 #[.pointer (some ⟨p, 0, none⟩), xv, .agg #[.int .i64 o.kind, .int .i64 o.at_, .int .i64 o.frm, .int .i64 o.to_, d]] W (fun e W' => ∃ B c lv', e = .returned (.tuple #[.slice B (stepO L o).length c, .bool true]) ∧ Twain w p q (stepO L o) ms (sentO s o) sm lv' lm (.slice B (stepO L o).length c) W' ∧
      ∀ (g : Nat) (cur : Array Value) (t : TypeId) (fr : Nat × Nat), W.heap[g]? = some (.cells cur t fr) → t ≠ 57 → t ≠ 29 → t ≠ 49 → W'.heap[g]? = some (.cells cur t fr)) := by
  obtain ⟨⟨ds, h1⟩, ⟨dm, h2⟩, h3, h4, h5, h6, h7, h8⟩ := h
  refine (step_any W p lv ds L s h1 hn (fun j hj => hf.at_ j hj) xv h3 o.kind o.at_ o.frm o.to_ d o.dat hd hnx hs0 hs1 (fun b hb h0 => ⟨fun e => by have := hdl b hb h0; omega, fun e => by have := hdl b hb h0; have := h5 b e; omega⟩)).mono ?_
  rintro e W' ⟨B, c, lv', ds', rfl, k1, k2, k3, k4, k5⟩
  have hsz := h4.size
  have hlm : ∀ g, lm.ownBlock = some g → g < W.heap.size := fun g hg => own_lt h2.row g hg
  have hother : ∀ (g : Nat) (cur : Array Value) (t : TypeId) (fr : Nat × Nat), W.heap[g]? = some (.cells cur t fr) → t ≠ 57 → t ≠ 29 → t ≠ 49 → W'.heap[g]? = some (.cells cur t fr) := fun g cur t fr hg t1 t2 t3 => k3.heap hg (fun hi => by
    rcases hi with hi | hi | hi
    · subst hi; exact t1 (cells_type hg h1.obj)
    · obtain ⟨c2, f2, hh⟩ := own_type h1.row g hi
      exact t2 (cells_type hg hh)
    · obtain ⟨c2, f2, hh⟩ := own_type h3 g hi
      exact t3 (cells_type hg hh))
  refine ⟨B, c, lv', rfl, ⟨⟨ds', k2⟩, ⟨dm, h2.apart k3 (fun hs => ?_) (fun k hk hs => ?_) (fun j k hj hk hs => ?_)⟩, k1, h4.then k3 (fun i hi => ?_), fun g hg => ?_, h6, fun g hg => ?_, fun g hg hg2 => ?_⟩, hother⟩
  · rcases hs with hs | hs | hs
    · exact hpq hs.symm
    · obtain ⟨c2, f2, hh⟩ := own_type h1.row q hs
      exact absurd (cells_type h2.obj hh) (by decide)
    · obtain ⟨c2, f2, hh⟩ := own_type h3 q hs
      exact absurd (cells_type h2.obj hh) (by decide)
  · rcases hs with hs | hs | hs
    · subst hs
      obtain ⟨c2, f2, hh⟩ := own_type h2.row k hk
      exact absurd (cells_type h1.obj hh) (by decide)
    · exact h8 k hs hk
    · exact own_ne h2.row h3 (by decide) k hk hs
  · rcases hs with hs | hs | hs
    · subst hs
      obtain ⟨c2, f2, hh⟩ := own_type (h2.dat j hj) k hk
      exact absurd (cells_type h1.obj hh) (by decide)
    · exact own_ne (h2.dat j hj) h1.row (by decide) k hk hs
    · exact own_ne (h2.dat j hj) h3 (by decide) k hk hs
  · rcases hi with hi | hi | hi
    · exact .inl (by omega)
    · exact .inl (h5 i hi)
    · exact .inl (h7 i hi)
  · rcases k4 g hg with h | h
    · exact h5 g h
    · omega
  · rcases k5 g hg with h | h
    · exact h7 g h
    · omega
  · rcases k4 g hg with h | h
    · exact h8 g h hg2
    · have := hlm g hg2; omega
/-- The second net's call. -/
theorem Twain.two {w : World} {p q : Nat} {L ms : List Let} {s sm : Int} {lv lm xv : Value} {W : World} (h : Twain w p q L ms s sm lv lm xv W) (hpq : p ≠ q) (hqw : w.heap.size ≤ q) (hn : L.length < 1024) (hm : ms.length < 1024) (hf : Few ms) (hs0 : 0 ≤ sm) (hs1 : sm ≤ 1000000) (o : OpI) (d : Value) (hd : SlB W d o.dat) (hnx : o.dat.length ≤ 1000)
    (hdl : ∀ b, Value.blk d = some b → 0 < o.dat.length → b < w.heap.size) :
    Calls Try.prog 15 #[.pointer (some ⟨q, 0, none⟩), xv, .agg #[.int .i64 o.kind, .int .i64 o.at_, .int .i64 o.frm, .int .i64 o.to_, d]] W (fun e W' => ∃ v b lm', e = .returned (.tuple #[v, .bool b]) ∧ Twain w p q L (stepO ms o) s (sentO sm o) lv lm' xv W' ∧
      ∀ (g : Nat) (cur : Array Value) (t : TypeId) (fr : Nat × Nat), W.heap[g]? = some (.cells cur t fr) → t ≠ 57 → t ≠ 29 → t ≠ 49 → W'.heap[g]? = some (.cells cur t fr)) := by
  obtain ⟨⟨ds, h1⟩, ⟨dm, h2⟩, h3, h4, h5, h6, h7, h8⟩ := h
  refine (stepG_any W q lm dm L sm ms h2 hm hn (fun j hj => hf.at_ j hj) xv h3 o.kind o.at_ o.frm o.to_ d o.dat hd hnx hs0 hs1 (fun b hb h0 => ⟨fun e => by have := hdl b hb h0; omega, fun e => by have := hdl b hb h0; have := h6 b e; omega⟩)).mono ?_
  rintro e W' ⟨v, b, lm', dm', rfl, k2, k1, k3, k4⟩
  have hsz := h4.size
  have hlv : ∀ g, lv.ownBlock = some g → g < W.heap.size := fun g hg => own_lt h1.row g hg
  have hother : ∀ (g : Nat) (cur : Array Value) (t : TypeId) (fr : Nat × Nat), W.heap[g]? = some (.cells cur t fr) → t ≠ 57 → t ≠ 29 → t ≠ 49 → W'.heap[g]? = some (.cells cur t fr) := fun g cur t fr hg t1 t2 t3 => k3.heap hg (fun hi => by
    rcases hi with hi | hi | hi
    · subst hi; exact t1 (cells_type hg h2.obj)
    · obtain ⟨c2, f2, hh⟩ := own_type h2.row g hi
      exact t2 (cells_type hg hh)
    · obtain ⟨c2, f2, hh⟩ := own_type h3 g hi
      exact t3 (cells_type hg hh))
  refine ⟨v, b, lm', rfl, ⟨⟨ds, h1.apart k3 (fun hs => ?_) (fun k hk hs => ?_) (fun j k hj hk hs => ?_)⟩, ⟨dm', k2⟩, k1, h4.then k3 (fun i hi => ?_), h5, fun g hg => ?_, h7, fun g hg hg2 => ?_⟩, hother⟩
  · rcases hs with hs | hs | hs
    · exact hpq hs
    · obtain ⟨c2, f2, hh⟩ := own_type h2.row p hs
      exact absurd (cells_type h1.obj hh) (by decide)
    · obtain ⟨c2, f2, hh⟩ := own_type h3 p hs
      exact absurd (cells_type h1.obj hh) (by decide)
  · rcases hs with hs | hs | hs
    · subst hs
      obtain ⟨c2, f2, hh⟩ := own_type h1.row k hk
      exact absurd (cells_type h2.obj hh) (by decide)
    · exact h8 k hk hs
    · exact own_ne h1.row h3 (by decide) k hk hs
  · rcases hs with hs | hs | hs
    · subst hs
      obtain ⟨c2, f2, hh⟩ := own_type (h1.dat j hj) k hk
      exact absurd (cells_type h2.obj hh) (by decide)
    · exact own_ne (h1.dat j hj) h2.row (by decide) k hk hs
    · exact own_ne (h1.dat j hj) h3 (by decide) k hk hs
  · rcases hi with hi | hi | hi
    · exact .inl (by omega)
    · exact .inl (h6 i hi)
    · exact .inl (h7 i hi)
  · rcases k4 g hg with h | h
    · exact h6 g h
    · omega
  · rcases k4 g hg2 with h | h
    · exact h8 g hg h
    · have := hlv g hg; omega
end Go.Proofs.Ytofmblkmfbioiaa
