/-
  What is told is spoilt: spoil, walked.
-/
import Derived.Test.YtofmblkmfbioiaaN34
import Derived.Test.YtofmblkmfbioiaaN35
namespace Go.Proofs.Ytofmblkmfbioiaa
open Go.RowKit Go.Shelf
attribute [local go_sem] Oper.semAt_some
/-- A row of bytes, whatever they are. -/
def Some5 (n : Nat) (d : Value) (m : Nat) (W : World) : Prop := ∃ us : List Int, us.length = m ∧ W.ownsRow n 5 1 d m (u8s us)
/-- The cells stay, but for bytes, of which there are as many as there were. -/
def KeepS (n : Nat) (A B : World) : Prop := A.heap.size ≤ B.heap.size ∧ (∀ (k : Nat) (cur : Array Value) (t : TypeId) (fr : Nat × Nat), A.heap[k]? = some (.cells cur t fr) → t ≠ 5 → B.heap[k]? = some (.cells cur t fr)) ∧ ∀ d m, Some5 n d m A → Some5 n d m B
theorem KeepS.trans (n : Nat) (A B C : World) (h : KeepS n A B) (k : KeepS n B C) : KeepS n A C := ⟨Nat.le_trans h.1 k.1, fun i cur t fr hi ht => k.2.1 i cur t fr (h.2.1 i cur t fr hi ht) ht, fun d m hs => k.2.2 d m (h.2.2 d m hs)⟩
theorem Some5.up {n : Nat} {d : Value} {m : Nat} {A B : World} (h : Some5 n d m A) (hu : Up A B) : Some5 n d m B := by
  obtain ⟨us, hl, hr⟩ := h
  exact ⟨us, hl, own_chg hr hu (fun _ _ h => h)⟩
theorem KeepS.up (n : Nat) (A B : World) (h : Up A B) : KeepS n A B := ⟨h.size, fun _ _ _ _ hi _ => h.heap hi (fun h => h), fun _ _ hs => hs.up h⟩
theorem KeepS.putObj (n : Nat) (W : World) (l : Nat) (o o' : Obj) (hl : W.heap[l]? = some o) (ho : o.isCells = false) : KeepS n W (W.putObj l o') := by
  have hsame : ∀ (k : Nat) (cur : Array Value) (t : TypeId) (fr : Nat × Nat), W.heap[k]? = some (.cells cur t fr) → (W.putObj l o').heap[k]? = some (.cells cur t fr) := fun k cur t fr hk => (World.putObj_heap_other (fun e => by subst e; rw [hl] at hk; cases hk; cases ho)).trans hk
  refine ⟨by simp [World.putObj], fun k cur t fr hk _ => hsame k cur t fr hk, fun d m hs => ?_⟩
  obtain ⟨us, hlen, hr⟩ := hs
  refine ⟨us, hlen, hr.1, ?_⟩
  rcases hr.2 with h0 | ⟨g, cap, cur, rfl, hb, hg, h1⟩
  · exact .inl h0
  · exact .inr ⟨g, cap, cur, rfl, hb, hsame _ _ _ _ hg, h1⟩
theorem KeepS.set {n : Nat} {W : World} {g : Nat} {cur : Array Value} {fr : Nat × Nat} (hg : W.heap[g]? = some (.cells cur 5 fr)) (j : Nat) (z : Int) : KeepS n W (W.setCell ⟨g, j, none⟩ (.int .u8 z)) := by
  have hother : ∀ k, k ≠ g → (W.setCell ⟨g, j, none⟩ (.int .u8 z)).heap[k]? = W.heap[k]? := fun k hk => heap_setCell_other W ⟨g, j, none⟩ k _ hk
  refine ⟨by simp, fun k c t f hk ht => ?_, fun d m hs => ?_⟩
  · rw [hother k (fun e => by subst e; exact ht (cells_type hk hg))]; exact hk
  · obtain ⟨us, hlen, hr⟩ := hs
    rcases hr.2 with ⟨rfl, h0⟩ | ⟨g', cap, cur', rfl, hb, hg', h1, h2, h3, h4⟩
    · exact ⟨us, hlen, hr.1, .inl ⟨rfl, h0⟩⟩
    · by_cases he : g' = g
      · subst he
        have := (World.ownsRow.stored hr j (.int .u8 z)).1
        rw [u8s_set] at this
        exact ⟨us.set j z, by rw [List.length_set]; exact hlen, this⟩
      · exact ⟨us, hlen, hr.1, .inr ⟨g', cap, cur', rfl, hb, by rw [hother g' he]; exact hg', h1, h2, h3, h4⟩⟩
theorem own_keepS {n : Nat} {A B : World} {base m s : Nat} {e : TypeId} {v : Value} {xs : List Value} (h : A.ownsRow base e s v m xs) (k : KeepS n A B) (he : e ≠ 5) : B.ownsRow base e s v m xs := by
  refine ⟨h.1, ?_⟩
  rcases h.2 with hn | ⟨g, cap, cur, rfl, hb, hg, hr⟩
  · exact .inl hn
  · exact .inr ⟨g, cap, cur, rfl, hb, k.2.1 _ _ _ _ hg he, hr⟩
theorem Stays.trans {B : Nat} {X Y Z : World} (h : Stays B X Y) (k : Stays B Y Z) : Stays B X Z := ⟨Nat.le_trans h.1 k.1, fun i o hB hi ho => k.2 i o hB (h.2 i o hB hi ho) ho⟩
theorem Stays.refl (B : Nat) (W : World) : Stays B W W := ⟨Nat.le_refl _, fun _ _ _ h _ => h⟩
theorem Stays.set {B : Nat} {W : World} {g : Nat} {cur : Array Value} {t : TypeId} {fr : Nat × Nat} (hg : W.heap[g]? = some (.cells cur t fr)) (j : Nat) (u : Value) : Stays B W (W.setCell ⟨g, j, none⟩ u) :=
  ⟨by simp, fun k o _ hk ho => (heap_setCell_other W ⟨g, j, none⟩ k u (fun e => by subst e; rw [hg] at hk; cases hk; cases ho)).trans hk⟩
set_option maxRecDepth 100000 in
set_option maxHeartbeats 8000000 in
theorem spoil_any (w : World) (p : Nat) (lv : Value) (ds : List Value) (ls : List Let) (sent : Int) (h : NetAt w p lv ds ls sent) (hn : ls.length ≤ 1024) (hx : ∀ j, j < ls.length → (ls.getD j default).2.2.length ≤ 1000000) (who : Int) :
    Calls Try.prog 19 #[.pointer (some ⟨p, 0, none⟩), .int .i64 who] w (fun e w' => (∃ v, e = .returned v) ∧ Below w.heap.size w w') := by
  refine (callsIn_wide (n := 5)).1 ?_
  have HTO := Lib.hid (to_any w p who)
  obtain ⟨W4, hW4⟩ : ∃ W, W = (w.alloc (.cells #[.pointer (some ⟨p, 0, none⟩)] 24)).alloc (.cells #[.int .i64 who] 3) := ⟨_, rfl⟩
  have hu4 : Up w W4 := by rw [hW4]; exact ((Chg.refl _ w).alloc _).alloc _
  have hgp4 : W4.heap[w.heap.size]? = some (.cells #[.pointer (some ⟨p, 0, none⟩)] 24 (0, 0)) := by rw [hW4]; exact ((Chg.refl (fun _ => False) _).alloc _).heap (heap_alloc_last w _) (fun h => h)
  have hgw4 : W4.heap[w.heap.size + 1]? = some (.cells #[.int .i64 who] 3 (0, 0)) := by rw [hW4]; have := heap_alloc_last (w.alloc (.cells #[.pointer (some ⟨p, 0, none⟩)] 24)) (.cells #[.int .i64 who] 3); simpa using this
  have HIT := Lib.hid (to_iter W4 p lv ds ls sent (h.up hu4) hn hx who w.heap.size (w.heap.size + 1) hgp4 hgw4 (fun d x W => Some5 W4.heap.size d x.2.2.length W) (KeepS W4.heap.size)
    (fun d x A B h hu => h.up hu) (fun d x W h => ⟨_, rfl, h⟩) (fun d x A B h hk => hk.2.2 _ _ h) (fun A B v n us h hk => own_keepS h hk (by decide)) (fun A B h hk => hk.2.1 _ _ _ _ h (by decide)) (5 - 1) (by omega))
  have HU4 := Lib.hid hu4
  have HW4 := Lib.hid hW4
  have HX := Lib.hid hx
  clear h hu4 hW4 hgp4 hgw4 hx
  refine callsIn_of_wp_marks Try.func19 rfl trivial ?_ rfl
  simp only [Try.ntmps19, List.size_toArray, List.length_cons, List.length_nil, Nat.reduceAdd, Nat.reduceSub, Array.replicate_succ, Array.replicate_zero, List.push_toArray, List.append_toArray, List.nil_append, List.cons_append]
  gi_wp2_with fail
  refine ⟨trivial, ?_⟩
  refine (callsIn_wide.2 HTO.out).mono ?_
  rintro e Wx ⟨rfl, rfl⟩
  rw [← HW4.out]
  gi_wp2_with fail
  refine range_up (n := 5) (by omega) (gf := 30) (lb := #[.pointer (some ⟨w.heap.size, 0, none⟩), .pointer (some ⟨w.heap.size + 1, 0, none⟩)]) rfl (enters_of Try.func30 (by kernel_rfl) rfl) HIT.out (KeepS.trans W4.heap.size) (KeepS.up W4.heap.size) (KeepS.putObj W4.heap.size) (fun _ => rfl)
    (fun _ W => Chg (fun i => w.heap.size ≤ i) w W)
    (fun s A B h hu => h.then hu (fun _ h => h.elim))
    (fun s W l o o' h hl ho hc => h.putObj l (.inl (Nat.le_trans HU4.out.size hl)) _) (HU4.out.mono (fun _ _ h => h.elim))
    (fun pre x A B h hu => ⟨h.1, h.2.1, h.2.2.1, h.2.2.2.1, h.2.2.2.2.up hu⟩) (fun pre x W l o o' h hl ho => ⟨h.1, h.2.1, h.2.2.1, h.2.2.2.1, (KeepS.putObj W4.heap.size W l o o' hl ho).2.2 _ _ h.2.2.2.2⟩)
    (fun a x a' W => ∃ g, a' = { tmps := ((a.tmps.setIfInBounds 10 (.int .i64 (x.1 : Int))).setIfInBounds 11 (.agg #[.int .i64 (ls.getD x.1 default).1, .int .i64 (ls.getD x.1 default).2.1, x.2])).setIfInBounds 5 (.pointer (some ⟨g, 0, none⟩)), defers := [] } ∧ W.heap[g]? = some (.cells #[.int .i64 (ls.getD x.1 default).1, .int .i64 (ls.getD x.1 default).2.1, x.2] 29 (0, 0)))
    (fun x a' W l o o' h hl ho => by
      obtain ⟨g, e, hg⟩ := h
      exact ⟨g, e, (World.putObj_heap_other (fun e => by subst e; rw [hl] at hg; cases hg; cases ho)).trans hg⟩) ?_ ?_ ?_
  · rintro l pre ⟨q, dq⟩ W K ⟨_, _, _, ⟨A3, c3, hsh⟩, _⟩ hK
    dsimp only at hsh hK
    subst hsh
    unfold handV
    dsimp only
    obtain ⟨y, hye⟩ : ∃ y, ls.getD q default = y := ⟨_, rfl⟩
    rw [hye] at hK ⊢
    obtain ⟨f, t, xs⟩ := y
    dsimp only at hK ⊢
    clear hye
    gi_wp2_with fail
    exact hK _ _ ((Chg.refl _ W).alloc _) ⟨_, rfl, heap_alloc_last _ _⟩
  · rintro l pre ⟨q, dq⟩ a' W hch ⟨hq, _, _, ⟨D3, c3, hsh⟩, hdat⟩ ⟨g5, rfl, hg5⟩
    dsimp only at hq hsh hdat hg5 ⊢
    subst hsh
    have hxq := HX.out q hq
    obtain ⟨y, hye⟩ : ∃ y, ls.getD q default = y := ⟨_, rfl⟩
    rw [hye] at hg5 hdat hxq ⊢
    obtain ⟨f, t, xs⟩ := y
    dsimp only at hg5 hdat hxq ⊢
    have HCH := Lib.hid hch
    have HDAT := Lib.hid hdat
    have HG5 := Lib.hid hg5
    have b2 := cell_of_row W g5 2 _ _ _ hg5
    clear hch hdat hg5 hye hq
    simp only [List.setIfInBounds_toArray, List.set_cons_zero, List.set_cons_succ]
    gi_wp2_with fail
    gi_loopw [15] (fun i wr => ∃ j : Nat, j ≤ xs.length ∧ i = .int .i64 j ∧ Stays W4.heap.size W wr ∧ KeepS W4.heap.size W wr ∧ Chg (fun i => w.heap.size ≤ i) w wr) (fun i _ => xs.length - (intOf i).toNat)
    case atStart => exact ⟨0, by omega, rfl, Stays.refl _ _, KeepS.up _ _ _ (Chg.refl _ _), HCH.out⟩
    case round =>
      rename World => wb
      obtain ⟨j, hj, rfl, hst, hkp, hcw⟩ := hrel
      have hg5b := hkp.2.1 _ _ _ _ HG5.out (by decide)
      have b2 := cell_of_row wb g5 2 _ _ _ hg5b
      obtain ⟨us, hus, hrow⟩ := hkp.2.2 _ _ HDAT.out
      by_cases hj2 : (j : Int) < xs.length
      · obtain ⟨gb, rfl⟩ : ∃ g, D3 = some ⟨g, 0, none⟩ := by
          rcases hrow.2 with ⟨_, hz⟩ | ⟨g, cap, cur, he, _⟩
          · omega
          · injection he with e1; exact ⟨g, e1⟩
        have lc := World.ownsRow.cells hrow rfl j _ (u8s_at (show j < us.length by omega))
        have fzj := World.ownsRow.frozenAt hrow j
        rw [addr_add, Nat.zero_add] at lc
        obtain ⟨cur, fr, hgb⟩ := own_type hrow gb rfl
        have hge := own_ge hrow gb rfl
        have HST := Lib.hid hst
        have HKP := Lib.hid hkp
        have HCW := Lib.hid hcw
        have HGB := Lib.hid hgb
        have HGE := Lib.hid hge
        clear hst hkp hcw hgb hge hrow hg5b
        gi_wp2_with fail
        exact ⟨⟨j + 1, by omega, by go_num, HST.out.trans (Stays.set HGB.out j _), HKP.out.trans _ _ _ _ (KeepS.set HGB.out j 8), HCW.out.setCell ⟨gb, j, none⟩ (.inl (Nat.le_trans HU4.out.size HGE.out)) _⟩, by simp [intOf]; omega⟩
      · have HST := Lib.hid hst
        have HKP := Lib.hid hkp
        have HCW := Lib.hid hcw
        clear hst hkp hcw hrow hg5b
        gi_wp2_with fail
        exact ⟨HST.out, HKP.out, HCW.out⟩
  · rintro Dd ys W hDd hys hch hK
    have HCH := Lib.hid hch
    have HK := Lib.hid hK
    clear hch hK hys
    gi_wp2_with fail
    refine ⟨by simp, .inl ⟨_, _, rfl, run_takeDeferred HK.out, ?_⟩⟩
    refine ⟨_, results_none rfl _ _ _, ⟨_, rfl⟩, ?_⟩
    exact (HCH.out.putObj Dd (.inl (Nat.le_trans HU4.out.size hDd)) _).below (Nat.le_refl _) (fun i hi => hi)
end Go.Proofs.Ytofmblkmfbioiaa
