/-
  One call, by the net and by the document: what 'step' is to do.
-/
import Derived.Test.YtofmblkmfbioiaaN17
namespace Go.Proofs.Ytofmblkmfbioiaa
open Go.RowKit
/-- The letters behind a call. -/
def stepI (ls : List Let) (k a f t : Int) (xs : List Int) : List Let :=
  if k = 1 then (if (whoI f && whoI t) = true then ls ++ [(f, t, xs)] else ls)
  else if k = 2 then (if atI ls a = true then ls.eraseIdx a.toNat else ls)
  else if k = 3 then (if atI ls a = true then ls.eraseIdx a.toNat else ls)
  else if k = 4 then (if atI ls a = true then ls ++ [ls.getD a.toNat default] else ls)
  else if k = 5 then (if atI ls a = true then ls.set a.toNat ((ls.getD a.toNat default).1, (ls.getD a.toNat default).2.1, xs) else ls)
  else ls
/-- How many are sent by a call. -/
def stepS (k f t : Int) : Int := if k = 1 then (if (whoI f && whoI t) = true then 1 else 0) else 0
def StepPost (p : Nat) (lv xv : Value) (ls' : List Let) (sent' : Int) (w : World) (e : Ending) (w' : World) : Prop :=
  ∃ B c lv' ds', e = .returned (.tuple #[.slice B ls'.length c, .bool true]) ∧ XAt w' 0 (.slice B ls'.length c) ls' ∧ NetAt w' p lv' ds' ls' sent' ∧
    Chg (fun i => i = p ∨ lv.ownBlock = some i ∨ xv.ownBlock = some i) w w' ∧ (∀ g, lv'.ownBlock = some g → lv.ownBlock = some g ∨ w.heap.size ≤ g) ∧
    (∀ g, (Value.slice B ls'.length c).ownBlock = some g → xv.ownBlock = some g ∨ w.heap.size ≤ g)
theorem ob_of {a b : Option Nat} {n : Nat} (h : a = b ∨ ∃ g, a = some g ∧ n ≤ g) : ∀ g, a = some g → b = some g ∨ n ≤ g := fun g hg => by
  rcases h with h | ⟨g', h, hn⟩
  · exact .inl (h ▸ hg)
  · rw [h] at hg; injection hg with hg; exact .inr (hg ▸ hn)
/-- The type of a row's block. -/
theorem own_type {W : World} {base n s : Nat} {e : TypeId} {v : Value} {xs : List Value} (h : W.ownsRow base e s v n xs) (g : Nat) (hg : v.ownBlock = some g) : ∃ cur fr, W.heap[g]? = some (.cells cur e fr) := by
  rcases h.2 with ⟨rfl, _⟩ | ⟨g', cap, cur, rfl, _, hh, _⟩
  · simp [Value.ownBlock] at hg
  · obtain rfl : g' = g := by simpa [Value.ownBlock] using hg
    exact ⟨_, _, hh⟩
theorem own_lt {W : World} {base n s : Nat} {e : TypeId} {v : Value} {xs : List Value} (h : W.ownsRow base e s v n xs) (g : Nat) (hg : v.ownBlock = some g) : g < W.heap.size := by
  obtain ⟨cur, fr, hh⟩ := own_type h g hg
  exact (Array.getElem?_eq_some_iff.1 hh).1
theorem own_ne {W : World} {b1 b2 n1 n2 s1 s2 : Nat} {e1 e2 : TypeId} {v1 v2 : Value} {x1 x2 : List Value} (h1 : W.ownsRow b1 e1 s1 v1 n1 x1) (h2 : W.ownsRow b2 e2 s2 v2 n2 x2) (he : e1 ≠ e2) (g : Nat) (g1 : v1.ownBlock = some g) : v2.ownBlock ≠ some g := fun g2 => by
  obtain ⟨c1, f1, k1⟩ := own_type h1 g g1
  obtain ⟨c2, f2, k2⟩ := own_type h2 g g2
  rw [k1] at k2
  cases k2
  exact he rfl
/-- A list of letters stays while a net goes on. -/
theorem XAt.net {w w' : World} {b : Nat} {v : Value} {ls : List Let} (h : XAt w b v ls) {p : Nat} {lv : Value} {ds : List Value} {ms : List Let} {sent : Int} (hn : NetAt w p lv ds ms sent) (hc : Chg (fun i => i = p ∨ lv.ownBlock = some i) w w') : XAt w' b v ls :=
  own_chg h hc (fun k hk hs => by
    rcases hs with hs | hs
    · subst hs
      obtain ⟨c, f, hh⟩ := own_type h k hk
      rw [hn.obj] at hh
      cases hh
    · exact own_ne h hn.row (by decide) k hk hs)
/-- A net stays while a list of letters goes on. -/
theorem NetAt.ref {w w' : World} {p : Nat} {lv : Value} {ds : List Value} {ls : List Let} {sent : Int} (h : NetAt w p lv ds ls sent) {b : Nat} {v : Value} {ms : List Let} (hx : XAt w b v ms) (hc : Chg (fun i => v.ownBlock = some i) w w') : NetAt w' p lv ds ls sent :=
  h.chg hc (fun hs => by
    obtain ⟨c, f, hh⟩ := own_type hx p hs
    rw [h.obj] at hh
    cases hh) (fun k hk hs => own_ne h.row hx (by decide) k hk hs) (fun k cur fr hs hh => by
    obtain ⟨c, f, hh2⟩ := own_type hx k hs
    rw [hh] at hh2
    cases hh2)
/-- A net stays where what is turned lies apart. -/
theorem NetAt.apart {S : Nat → Prop} {w w' : World} {p : Nat} {lv : Value} {ds : List Value} {ls : List Let} {sent : Int} (h : NetAt w p lv ds ls sent) (hc : Chg S w w') (hp : ¬ S p) (hl : ∀ k, lv.ownBlock = some k → ¬ S k) (hd : ∀ j k, j < ls.length → (ds.getD j undef).ownBlock = some k → ¬ S k) : NetAt w' p lv ds ls sent :=
  ⟨hc.heap h.obj hp, h.len, own_chg h.row hc hl, fun j hj => own_chg (h.dat j hj) hc (fun k hk => hd j k hj hk)⟩
end Go.Proofs.Ytofmblkmfbioiaa
