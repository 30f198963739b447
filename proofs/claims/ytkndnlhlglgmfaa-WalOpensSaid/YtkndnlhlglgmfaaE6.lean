/-
  Crash, walked.
-/
import Derived.Test.YtkndnlhlglgmfaaE5
namespace Go.Proofs.Ytkndnlhlglgmfaa
open Go.RowKit
/-- Numbers that are read. -/
def i64s (l : List Int) : List Value := l.map (.int .i64)
def SlI (w : World) (v : Value) (zs : List Int) : Prop := Src w v 1 zs.length (i64s zs)
theorem SlI.shape {w : World} {v : Value} {xs : List Int} (h : SlI w v xs) : ∃ A c, v = .slice A xs.length c ∧ xs.length ≤ c ∧ c ≤ 9223372036854775807 := by
  rcases h with ⟨rfl, h, _⟩ | ⟨a, c, rfl, _, h1, h2, _⟩
  · rw [h]; exact ⟨none, 0, rfl, Nat.le_refl _, by omega⟩
  · exact ⟨_, c, rfl, h1, h2⟩
theorem Src.form {w : World} {v : Value} {size n : Nat} {us : List Value} (h : Src w v size n us) (hp : 0 < us.length) : ∃ b off c, v = .slice (some ⟨b, off, none⟩) n c ∧ n ≤ c ∧ c ≤ 9223372036854775807 ∧ ∀ j u, us[j]? = some u → w.cell? ⟨b, off + j, none⟩ = some u := by
  rcases h with ⟨_, _, rfl⟩ | ⟨⟨b, off, sp⟩, c, rfl, _, h1, h2, hr⟩
  · simp at hp
  · have h0 := hr 0 _ (List.getElem?_eq_getElem hp)
    have : sp = none := by
      cases sp with
      | none => rfl
      | some q =>
        exfalso
        simp only [Addr.add, if_pos] at h0
        unfold World.cell? at h0
        cases hb : w.heap[b]? with
        | none => simp [hb] at h0
        | some o => cases o <;> simp [hb] at h0
    subst this
    exact ⟨b, off, c, rfl, h1, h2, fun j u hu => by rw [← addr_add]; exact hr j u hu⟩
def dropAll (ca : Int → Option (List Int)) (zs : List Int) : Int → Option (List Int) := zs.foldl (fun c i => updI c i none) ca
theorem dropAll_take (ca : Int → Option (List Int)) (zs : List Int) (k : Nat) (h : k < zs.length) : dropAll ca (zs.take (k + 1)) = updI (dropAll ca (zs.take k)) (zs.getD k 0) none := by
  unfold dropAll
  rw [List.take_add_one, List.getElem?_eq_getElem h, List.foldl_append, List.getD_eq_getElem?_getD, List.getElem?_eq_getElem h]
  rfl
/-- What Crash does. -/
def crashI (x : Dk) (zs : List Int) : Dk := { settleI { x with ca := dropAll x.ca zs } with left := -1, down := false }
theorem DiskAt.dropped {w w' : World} {p b m : Nat} {sv : Value} {ss : List Value} {C : Int → Option Value} {x : Dk} (h : DiskAt w p b m sv ss C x) (i : Int) (hc : Chg (fun k => k = b) w w') (hm : CacheAt w' b m (upd C i none)) : DiskAt w' p b m sv ss (upd C i none) { x with ca := updI x.ca i none } :=
  h.mapped hc hm (fun j v hv => by
    unfold upd at hv
    by_cases hj : j = i
    · rw [if_pos hj] at hv; cases hv
    · rw [if_neg hj] at hv
      obtain ⟨k1, k2, ys, k3, k4⟩ := h.key j v hv
      exact ⟨k1, k2, ys, by unfold updI; rw [if_neg hj]; exact k3, h.kept hc k4⟩) (fun j hv => by
    unfold upd at hv
    unfold updI
    by_cases hj : j = i
    · rw [if_pos hj]
    · rw [if_neg hj] at hv ⊢; exact h.non j hv)
set_option maxRecDepth 100000 in
set_option maxHeartbeats 4000000 in
theorem crash_any (w : World) (p b m : Nat) (sv : Value) (ss : List Value) (C : Int → Option Value) (x : Dk) (h : DiskAt w p b m sv ss C x) (hnb : x.has.length ≤ 65536) (v : Value) (zs : List Int) (hv : SlI w v zs) (hz : ∀ j, I64 (zs.getD j 0)) (hzn : zs.length ≤ 100000) (hsep : ∀ g, Value.blk v = some g → 0 < zs.length → ¬ OwnD p b sv g) :
    Calls Try.prog 20 #[.pointer (some ⟨p, 0, none⟩), v] w (fun e w' => (∃ u, e = .returned u) ∧ ∃ ss', DiskAt w' p b 0 sv ss' (fun _ => none) (crashI x zs) ∧ Chg (OwnD p b sv) w w') := by
  obtain ⟨A, c, rfl, hc1, hc2⟩ := hv.shape
  have H := Lib.hid h
  have HV := Lib.hid hv
  have HZ := Lib.hid hz
  have HSEP := Lib.hid hsep
  clear h hv hz hsep
  go_enter Try.func20, Try.ntmps20
  go_wp2_with fail
  go_loopw [8] (fun i wr => ∃ (k : Nat) (Ck : Int → Option Value), k ≤ zs.length ∧ i = .int .i64 k ∧ DiskAt wr p b m sv ss Ck { x with ca := dropAll x.ca (zs.take k) } ∧ Chg (OwnD p b sv) w wr) (fun i _ => zs.length - (intOf i).toNat)
  case atStart => exact ⟨0, C, by omega, rfl, H.out, Chg.refl _ _⟩
  case round =>
    rename World => wr
    obtain ⟨k, Ck, hk, rfl, hd, hch⟩ := hrel
    by_cases hk2 : (k : Int) < zs.length
    · obtain ⟨bb, off, cc, he, _, _, hcell⟩ := HV.out.form (by simp [i64s]; omega)
      injection he with e1 e2 e3
      subst e1
      have hl0 : (i64s zs)[k]? = some (.int .i64 (zs.getD k 0)) := by
        simp [i64s, List.getD_eq_getElem?_getD, List.getElem?_eq_getElem (show k < zs.length by omega)]
      have r0 := hch.cell (hcell k _ hl0) (HSEP.out bb rfl (by omega))
      have hzk := HZ.out k
      have hdt := dropAll_take x.ca zs k (by omega)
      obtain ⟨z, hze⟩ : ∃ z, zs.getD k 0 = z := ⟨_, rfl⟩
      rw [hze] at r0 hzk hdt
      obtain ⟨w2, hrun, hm2, hc2⟩ := cache_drop hd.map hzk 0
      have q2 := hd.c2
      have hd2 := hd.dropped z hc2 hm2
      dsimp only at hd2
      rw [← hdt] at hd2
      have HD2 := Lib.hid hd2
      have HCH2 := Lib.hid (hch.then hc2 (fun i hi => .inl (.inr (.inl hi))))
      clear hd hch hd2 hm2 hc2 hzk hdt hze hcell
      go_wp2_with fail
      exact ⟨⟨k + 1, _, by omega, by go_num, HD2.out, HCH2.out⟩, by simp [intOf]; omega⟩
    · obtain rfl : k = zs.length := by omega
      rw [List.take_length] at hd
      have HS := Lib.hid (settle_any wr p b m sv ss Ck _ hd hnb)
      have HCH := Lib.hid hch
      clear hd hch
      go_wp2_with fail
      refine HS.out.mono ?_
      rintro e w2 ⟨⟨u, rfl⟩, ss2, hd2, hc2⟩
      have q3 := hd2.c3
      have q5 := hd2.c5
      have f3 := hd2.fz 3
      have f5 := hd2.fz 5
      have HD2 := Lib.hid hd2
      have HC2 := Lib.hid hc2
      clear hd2 hc2
      go_wp2_with fail
      go_end0
      have hc : Chg (fun i => i = p) w2 ((w2.setCell ⟨p, 3, none⟩ (.int .i64 (-1))).setCell ⟨p, 5, none⟩ (.bool false)) := ((Chg.refl (fun i => i = p) w2).setCell ⟨p, 3, none⟩ (.inl rfl) _).setCell ⟨p, 5, none⟩ (.inl rfl) _
      exact ⟨⟨_, rfl⟩, ss2, HD2.out.nums hc (-1) _ false (by rw [heap_setCell_same _ p 5 _ _ _ (heap_setCell_same w2 p 3 _ _ _ HD2.out.obj)]; rfl), (HCH.out.then HC2.out (fun k hk => .inl (.inr hk))).then hc (fun k hk => .inl (.inl hk))⟩
end Go.Proofs.Ytkndnlhlglgmfaa
