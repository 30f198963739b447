/-
  What is cached stands: settle, walked.
-/
import Derived.Test.YtkndnlhlglgmfaaE3
import Derived.OpenShut
namespace Go.Proofs.Ytkndnlhlglgmfaa
open Go.RowKit Go.WideElems Go.OpenShut Go.ChangeShapes Go.WideShapes
/-- What 'settle' does. -/
def settleI (x : Dk) : Dk := { x with has := (List.range x.has.length).map (fun (j : Nat) => (x.ca (j : Int)).getD (x.has.getD j [])), ca := fun _ => none }
theorem getD_ext (l : List Value) (f : Nat → Value) (h : ∀ j, j < l.length → l.getD j undef = f j) : l = (List.range l.length).map f := by
  apply List.ext_getElem (by simp)
  intro j h1 h2
  have := h j h1
  rw [List.getD_eq_getElem?_getD, List.getElem?_eq_getElem h1] at this
  simpa using this
set_option maxRecDepth 100000 in
set_option maxHeartbeats 4000000 in
theorem settle_any (w : World) (p b m : Nat) (sv : Value) (ss : List Value) (C : Int → Option Value) (x : Dk) (h : DiskAt w p b m sv ss C x) (hnb : x.has.length ≤ 65536) : Calls Try.prog 52 #[.pointer (some ⟨p, 0, none⟩)] w (fun e w' => (∃ v, e = .returned v) ∧ ∃ ss', DiskAt w' p b 0 sv ss' (fun _ => none) (settleI x) ∧ Chg (fun k => k = b ∨ sv.ownBlock = some k) w w') := by
  obtain ⟨n, hn⟩ : ∃ n, x.has.length = n := ⟨_, rfl⟩
  have hsl : ss.length = n := by rw [h.len, hn]
  obtain ⟨A, cs, rfl⟩ := own_shape h.row
  obtain ⟨D, hD, hDv⟩ := h.map
  have c1 := h.c1
  have c2 := h.c2
  rw [hsl] at c1
  rw [hn] at hnb
  have hrow := h.row
  rw [hsl] at hrow
  have hkey := h.key
  rw [hn] at hkey
  have H := Lib.hid h
  have HROW := Lib.hid hrow
  have HKEY := Lib.hid hkey
  have HDV := Lib.hid hDv
  have HD := Lib.hid hD
  have HN := Lib.hid hn
  have HSL := Lib.hid hsl
  have HP1 := Lib.hid h.c1
  rw [hsl] at HP1
  clear h hrow hkey hDv hD hn
  have hown0 : ∀ k, (Value.slice A ss.length cs).ownBlock = some k → (Value.slice A n cs).ownBlock = some k := fun k hk => by rw [← hsl]; exact hk
  rw [hsl]
  clear hown0 hsl
  go_enter Try.func52, Try.ntmps52
  go_wp2_with (refine wpList_range_own w rfl _ 79 rfl 3 28 K3 Try.underlying79 RV b m D rfl HD.out ?_; intro w1 hr1 hg1 hz1)
  obtain ⟨r, hr⟩ : ∃ r, r = w.heap.size := ⟨_, rfl⟩
  rw [← hr] at hr1 ⊢
  have hu1 : Up w w1 := ((Chg.of_grownBy hg1).mono (fun i _ hi => by cases hi))
  have hcase : ∀ (j : Nat), j < n → ss.getD j undef = if Maps.has D (.int .i64 (j : Int)) = true then ss.getD j undef else (C j).getD (ss.getD j undef) := fun j hj => by
    have := (HDV.out j (by unfold I64; omega)).1
    cases hc : C (j : Int) with
    | none => simp
    | some v => rw [hc] at this; simp [this]
  have HR1 := Lib.hid hr1
  have HU1 := Lib.hid hu1
  have HR := Lib.hid hr
  have HCASE := Lib.hid hcase
  clear hr1 hg1 hz1 hu1 hr hcase c1 c2
  simp only [Act.put, List.setIfInBounds_toArray, List.set_cons_zero, List.set_cons_succ]
  go_loopw [9] (fun _ wr => ∃ (left : Lit → Bool) (cnt : Nat) (sk : List Value), wr.ranges Try.prog 3 RV b r m D left cnt ∧ sk.length = n ∧ wr.ownsRow 0 28 1 (.slice A n cs) n sk ∧ (∀ (j : Nat), j < n → sk.getD j undef = if left (.int .i64 (j : Int)) = true then ss.getD j undef else (C j).getD (ss.getD j undef)) ∧ Chg (fun k => (Value.slice A n cs).ownBlock = some k) w wr) (fun _ wr => wr.rangeLeft b r)
  case atStart => exact ⟨_, _, ss, HR1.out, HSL.out, own_chg HROW.out HU1.out (fun _ _ h => h), HCASE.out, HU1.out.mono (fun _ _ h => h.elim)⟩
  case round =>
    rename World => wr
    obtain ⟨left, cnt, sk, hrg, hsk, hrow, hall, hch⟩ := hrel
    have hlf := hrg.left_eq
    have hfact : ∀ (xk : Int) (c : Value) (kl : Lit) (y : DataW Value × List MemPlace) (w1 : World), keyOf Try.prog 3 (.int .i64 xk) = some kl → left kl = true → RV c = some y → (∀ zd, D.atKey kl zd = y.1) → wr.grownBy w1 (some r) →
        ∃ (k g A2 n2 c2 : _), xk = ((k : Nat) : Int) ∧ k < n ∧ A = some ⟨(g : Nat), 0, none⟩ ∧ c = .slice A2 n2 c2 ∧ kl = .int .i64 xk ∧ C xk = some c ∧ (∃ e, w1.cell? ⟨g, k, none⟩ = some e) ∧ w1.frozen? ⟨g, k, none⟩ = false ∧ w1.cell? ⟨p, 1, none⟩ = some (.slice A n cs) ∧ w1.ownsRow 0 28 1 (.slice A n cs) n sk := fun xk c kl y w1 hkey hlk hv hat hgr => by
      obtain ⟨x', hx', rfl, hwx⟩ := Maps.keyOf_int_inv Try.underlying3 hkey
      injection hx' with _ hx'
      subst hx'
      have hb := bounds_i64 hwx
      have hD' := (HDV.out xk hb).2
      unfold RV at hv
      simp only [Option.some.injEq] at hv
      subst hv
      have hC : C xk = some c := by
        have h1 := (hD' (.held undef)).symm.trans (hat (.held undef))
        have h2 := (hD' .nil).symm.trans (hat .nil)
        cases hc : C xk with
        | none => rw [hc] at h2; simp [asHeld] at h2
        | some v => rw [hc] at h1; simp [asHeld] at h1; rw [h1]
      obtain ⟨k1, k2, ys, _, hdat⟩ := HKEY.out xk c hC
      obtain ⟨k, rfl⟩ : ∃ k : Nat, xk = k := ⟨xk.toNat, by omega⟩
      obtain ⟨A2, c2, rfl⟩ := own_shape hdat
      obtain ⟨es, cl, hbl⟩ := hrg.owns.imp fun es h => h.imp fun cl h => h.1
      have hne : ∀ g, (Value.slice A n cs).ownBlock = some g → some g ≠ some r := fun g hg e => by
        obtain ⟨c2, f2, hh⟩ := own_type hrow g hg
        injection e with e
        subst e
        obtain ⟨_, _, _, _, _, _, _, _, _, hit, _⟩ := hrg
        rw [hit] at hh; cases hh
      obtain ⟨g, rfl⟩ : ∃ g, A = some ⟨g, 0, none⟩ := by
        rcases hrow.2 with ⟨_, hz⟩ | ⟨g, cap, cur, he, _⟩
        · omega
        · injection he with e1; exact ⟨g, e1⟩
      have hrow1 : w1.ownsRow 0 28 1 (.slice (some ⟨g, 0, none⟩) n cs) n sk := hrow.kept hgr (.inr (fun e => hne g rfl e))
      have hce := World.ownsRow.cells hrow1 rfl k _ (List.getElem?_eq_getElem (show k < sk.length by omega))
      rw [addr_add, Nat.zero_add] at hce
      have hp1 : wr.cell? ⟨p, 1, none⟩ = some (.slice (some ⟨g, 0, none⟩) n cs) := hch.cell HP1.out (fun e => by
        obtain ⟨c2, f2, hh⟩ := own_type HROW.out p e
        rw [H.out.obj] at hh; cases hh)
      have hpr : p ≠ r := fun e => by
        have := (Array.getElem?_eq_some_iff.1 H.out.obj).1
        have := HR.out
        omega
      exact ⟨k, g, A2, _, c2, rfl, by omega, rfl, rfl, rfl, hC, ⟨_, hce⟩, World.ownsRow.frozenAt hrow1 k, ((Chg.of_grownBy hgr).cell hp1 (fun e => hpr (by injection e))), hrow1⟩
    have hpr2 : p ≠ r := fun e => by
      have := (Array.getElem?_eq_some_iff.1 H.out.obj).1
      have := HR.out
      omega
    have c2 : wr.cell? ⟨p, 2, none⟩ = some (.map (some b)) := hch.cell H.out.c2 (fun e => by
      obtain ⟨c2, f2, hh⟩ := own_type HROW.out p e
      rw [H.out.obj] at hh; cases hh)
    have hcb : CacheAt wr b m C := ⟨D, hrg.owns, HDV.out⟩
    obtain ⟨wf, hclr, hcf, hchf⟩ := cache_clear hcb 0
    have HCF := Lib.hid hcf
    have HCHF := Lib.hid hchf
    have HCB := Lib.hid hcb
    clear hcf hchf hcb
    have HRG := Lib.hid hrg
    have HALL := Lib.hid hall
    have HCH := Lib.hid hch
    have HROWK := Lib.hid hrow
    have HF := Lib.hid hfact
    clear hrg hall hch hrow hfact
    go_wp2_with (refine wpList_next_ranges wr rfl (.tmp 8) rfl 3 K3 RV (Value.int .i64) (fun v => v) (fun key kl hk => by obtain ⟨x, rfl, _⟩ := Maps.keyOf_int_inv Try.underlying3 hk; exact ⟨x, rfl⟩) (fun v y _ => ⟨v, rfl⟩) b r m D left cnt rfl HRG.out (fun hc0 hleft => ?_) (fun xk c kl y w1 cnt' hkey hlk hv hat hrg hlt hgr hsz hen => ?_); rotate_left; obtain ⟨k, g, A2, n2, c2, rfl, hkn, rfl, rfl, rfl, hC, ⟨e, hce⟩, hfz, hp1, hrow1⟩ := HF.out xk c kl y w1 hkey hlk hv hat hgr; rotate_left)
    · go_end0
      have hpA : ∀ k, (Value.slice A n cs).ownBlock = some k → ¬ k = p := fun k hk e => by
        subst e
        obtain ⟨c2, f2, hh⟩ := own_type HROW.out k hk
        rw [H.out.obj] at hh; cases hh
      have h5a : ∀ k cur fr, (Value.slice A n cs).ownBlock = some k → w.heap[k]? ≠ some (.cells cur 5 fr) := fun k cur fr hk hh => by
        obtain ⟨c2, f2, hh2⟩ := own_type HROW.out k hk
        rw [hh] at hh2; cases hh2
      obtain ⟨es, cl, hbm⟩ := HCB.out.block
      have h5b : ∀ k cur (t : TypeId) fr, k = b → wr.heap[k]? ≠ some (.cells cur t fr) := fun k cur t fr e hh => by subst e; rw [hbm] at hh; cases hh
      have hobr := HCH.out.heap H.out.obj (fun e => hpA p e rfl)
      rw [HSL.out] at hobr
      have hdat : ∀ v xs, DatB w v xs → DatB wf v xs := fun v xs hd => own_chg' (own_chg' hd HCH.out h5a) HCHF.out (fun k cur fr e => h5b k cur _ fr e)
      have hln : (settleI x).has.length = n := by unfold settleI; simp [HN.out]
      refine ⟨⟨_, rfl⟩, sk, ⟨HCHF.out.heap hobr (fun e => h5b _ _ _ _ e hobr), ?_, by rw [hln]; exact hsk, fun j hj => ?_, HCF.out, fun i v hv => (by cases hv), fun i _ => rfl⟩, HCH.out.mono (fun k _ hk => .inr hk) |>.then HCHF.out (fun k hk => .inl (.inl hk))⟩
      · rw [hsk]
        exact own_chg' HROWK.out HCHF.out (fun k cur fr e => h5b k cur _ fr e)
      · rw [hln] at hj
        have e1 := HALL.out j hj
        rw [hleft, if_neg (by decide)] at e1
        have e2 : (settleI x).has.getD j [] = (x.ca (j : Int)).getD (x.has.getD j []) := by unfold settleI; simp [List.getD_eq_getElem?_getD, HN.out, hj]
        rw [e1, e2]
        cases hc : C (j : Int) with
        | none =>
          rw [H.out.non _ hc]
          exact hdat _ _ (H.out.sec j (by rw [HN.out]; exact hj))
        | some v =>
          obtain ⟨_, _, xs, h3, h4⟩ := H.out.key _ v hc
          rw [h3]
          exact hdat _ _ h4
    · obtain ⟨hs1, hs2⟩ := World.ownsRow.stored hrow1 k (.slice A2 n2 c2)
      obtain ⟨cu, fu, hgu⟩ := own_type hrow1 g rfl
      have hbg : some b ≠ some g := fun e => by
        obtain ⟨es, cl, hb, _⟩ := hrg.owns
        injection e with e
        subst e; rw [hb] at hgu; cases hgu
      have hrg' : some r ≠ some g := fun e => by
        obtain ⟨_, _, _, _, _, _, _, _, _, hit, _⟩ := hrg
        injection e with e
        subst e; rw [hit] at hgu; cases hgu
      have hrk := hrg.kept hs2 hbg hrg'
      refine ⟨⟨_, cnt', _, hrk, by rw [List.length_set]; exact hsk, hs1, fun j hj => ?_, ?_⟩, ?_⟩
      · by_cases hjk : j = k
        · subst hjk
          have e1 : (left (.int .i64 (j : Int)) && !(Lit.int .i64 (j : Int)).sameKey (.int .i64 (j : Int))) = false := by simp [Lit.sameKey]
          rw [e1, if_neg (by decide), hC, List.getD_eq_getElem?_getD, List.getElem?_set_self (by omega)]
          rfl
        · have e1 : (Lit.int .i64 (j : Int)).sameKey (.int .i64 (k : Int)) = false := Maps.sameKey_ne (fun e => hjk (by injection e with _ e; omega))
          rw [e1, List.getD_eq_getElem?_getD, List.getElem?_set_ne (fun e => hjk e.symm), ← List.getD_eq_getElem?_getD, Bool.not_false, Bool.and_true]
          exact HALL.out j hj
      · exact (HCH.out.then (Chg.of_grownBy hgr) (fun i hi => .inr (by injection hi with hi; have := HR.out; omega))).setCell ⟨g, k, none⟩ (.inl rfl) _
      · rw [hrk.left_eq, hlf]; exact hlt
end Go.Proofs.Ytkndnlhlglgmfaa
