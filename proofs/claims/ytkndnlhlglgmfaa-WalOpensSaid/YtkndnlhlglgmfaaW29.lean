/-
  A wal that is opened while the power goes: plain laws.
-/
import Derived.Test.YtkndnlhlglgmfaaW28
namespace Go.Proofs.Ytkndnlhlglgmfaa
open Go.RowKit
/-- What a head may be. -/
def HP (P : List Int → Prop) (x : Dk) : Prop := P (hasI x 0) ∧ P (nowI x 0)
theorem HP.ne {P : List Int → Prop} {x y : Dk} (h : HP P x) (h1 : hasI y 0 = hasI x 0) (h2 : nowI y 0 = nowI x 0) : HP P y := ⟨by rw [h1]; exact h.1, by rw [h2]; exact h.2⟩
theorem HP.write {P : List Int → Prop} {x : Dk} (h : HP P x) (hd : List Int) (hg : P hd) : HP P (writeI x 0 hd).1 := by
  refine ⟨by unfold hasI; rw [write_has]; exact h.1, ?_⟩
  rcases write_or x 0 hd with e | e
  · rw [e]; exact hg
  · rw [e]; exact h.2
theorem HP.flush {P : List Int → Prop} {x : Dk} (h : HP P x) (hn : 0 < x.has.length) : HP P (flushI x).1 := by
  refine ⟨?_, by rw [flush_now x 0 (by omega) (by omega)]; exact h.2⟩
  by_cases he : (flushI x).2 = 0
  · rw [((flush_ok he).2.2.2 0 (by omega) (by omega)).1]; exact h.2
  · unfold hasI; rw [(flush_no he).1]; exact h.1
theorem HP.four {P : List Int → Prop} {x : Dk} (h : HP P x) (hn : 0 < x.has.length) (T : Nat → Int) (cs : List ChI) (hd : List Int) (hT : ∀ j, j < cs.length → 0 ≠ T j) (hg : P hd) : HP P (fourI x T cs hd).1 := by
  have w1 := wrI_ne x T cs 0 cs.length hT
  have f1 := wrI_form x T cs cs.length
  have h1 : HP P (wrI x T cs cs.length).1 := h.ne w1.2 w1.1
  have h2 := h1.flush (by rw [f1.1]; exact hn)
  have f2 := flush_form (wrI x T cs cs.length).1
  have h3 := h2.write hd hg
  have f3 := write_form (flushI (wrI x T cs cs.length).1).1 0 hd
  have h4 := h3.flush (by rw [f3.1, f2.1, f1.1]; exact hn)
  unfold fourI
  split
  · exact h1
  · split
    · exact h2
    · split
      · exact h3
      · exact h4
theorem HP.commit {P : List Int → Prop} {n size : Nat} {home : Int} (f : Fm n size home) {x : Dk} (hx : x.has.length = n ∧ x.size = size) (h : HP P x) (hP : ∀ l, P (headI l size)) (dn : Bool) (cs : List ChI) : HP P (commitI x home dn cs).1 := by
  have hb := f.hh
  unfold commitI
  split
  · exact h
  · split
    · exact h
    · split
      · exact h
      · rename_i hc
        rw [hx.1, hx.2] at hc
        obtain ⟨hok, hlen⟩ := chk_ok (Classical.not_not.1 hc)
        have h1 := h.four (by omega) (fun k => 1 + home + (k : Int)) cs (headI (atsOf cs) x.size) (fun j hj => by omega) (by rw [hx.2]; exact hP _)
        split
        · exact h1
        · refine h1.four (by rw [(fourI_form _ _ _ _).1]; omega) _ cs (headI [] x.size) (fun j hj => ?_) (by rw [hx.2]; exact hP _)
          have := (hok j hj).1
          show (0 : Int) ≠ 1 + _
          omega
theorem HP.opn {P : List Int → Prop} {n size : Nat} {home : Int} (f : Fm n size home) {x : Dk} (hx : x.has.length = n ∧ x.size = size) (h : HP P x) (hP : P (headI [] size)) : HP P (openI x home).1 := by
  have hb := f.hh
  have hpb := parse_bd (nowI x 0) home (roomI n size home) size hb.1 hb.2.2.1
  unfold openI
  rw [hx.1, hx.2]
  split
  · exact h
  · split
    · exact h
    · refine h.four (by omega) _ _ _ (fun j hj => ?_) hP
      rw [jrnl_len] at hj
      rw [jrnl_at x home _ j hj]
      have := getD_all hpb.2 j hj
      dsimp only
      omega
theorem HP.crash {P : List Int → Prop} {x : Dk} (h : HP P x) (zs : List Int) (hn : 0 < x.has.length) : HP P (crashI x zs) := by
  have := (crash_now x zs 0 (by omega) (by omega)).2
  refine ⟨?_, ?_⟩
  · rw [this.1]; split
    · exact h.1
    · exact h.2
  · rw [this.2]; split
    · exact h.1
    · exact h.2
theorem bytes_mem {xs : List Int} (h : ∀ a ∈ xs, 0 ≤ a ∧ a ≤ 255) : Bytes xs := fun j => by
  rw [List.getD_eq_getElem?_getD]
  cases hj : xs[j]? with
  | none => simp
  | some a => exact h a (List.mem_of_getElem? hj)
theorem be8_mem {n : Int} {k : Nat} {a : Int} (h : a ∈ be8 n k) : 0 ≤ a ∧ a ≤ 255 := by
  obtain ⟨j, _, rfl⟩ := List.mem_map.1 h
  omega
theorem headI_bytes (l : List Int) (size : Nat) : Bytes (headI l size) := by
  refine bytes_mem (fun a ha => ?_)
  unfold headI pad at ha
  rcases List.mem_append.1 ha with h | h
  · have h := List.mem_of_mem_take h
    unfold headB at h
    rcases List.mem_append.1 h with h | h
    · rcases List.mem_append.1 h with h | h
      · exact be8_mem h
      · exact be8_mem h
    · obtain ⟨m, hm, hx⟩ := List.mem_flatten.1 h
      obtain ⟨b, _, rfl⟩ := List.mem_map.1 hm
      exact be8_mem hx
  · have := List.eq_of_mem_replicate h
    omega
theorem open_form (x : Dk) (home : Int) : (openI x home).1.has.length = x.has.length ∧ (openI x home).1.size = x.size := by
  unfold openI
  split
  · exact ⟨rfl, rfl⟩
  · split
    · exact ⟨rfl, rfl⟩
    · exact fourI_form _ _ _ _
theorem open_wf {n size : Nat} {home : Int} (f : Fm n size home) {x : Dk} (hx : x.has.length = n ∧ x.size = size) {k : Nat} (h : Wf x k) : Wf (openI x home).1 (k + 700) := by
  have hb := f.hh
  have := f.s2
  have hpb := parse_bd (nowI x 0) home (roomI n size home) size hb.1 hb.2.2.1
  unfold openI
  rw [hx.1, hx.2]
  split
  · exact h.mono (by omega)
  · split
    · exact h.mono (by omega)
    · refine (fourI_wf h _ _ _).mono ?_
      rw [jrnl_len]
      omega
theorem Wf.sz {x : Dk} {k : Nat} (h : Wf x k) (i : Int) (h0 : 0 ≤ i) (h1 : i < x.has.length) : (nowI x i).length = x.size := by
  unfold nowI
  cases hc : x.ca i with
  | none => exact h.has i.toNat (by omega)
  | some ys => exact (h.ca i ys hc).1
/-- What a wal is to have. -/
def wantL (n size home : Nat) (x : Dk) : List (List Int) := (List.range home).map (fun (i : Nat) => recH n size home (nowI x) i)
theorem wantL_len (n size home : Nat) (x : Dk) : (wantL n size home x).length = home := by simp [wantL]
theorem reopen_ok {n size home : Nat} (f : Fm n size home) {x : Dk} (hx : x.has.length = n ∧ x.size = size) {k : Nat} (hwf : Wf x k) (hdn : x.down = false) (hca : x.ca = fun _ => none) (hg : gd n size home (nowI x 0)) :
    OpenOk n size home x (openI x home) ∧ ((openI x home).2 = 0 → homesN (openI x home).1 home = wantL n size home x) ∧ ∀ zs, gd n size home (nowI (crashI (openI x home).1 zs) 0) ∧ wantL n size home (crashI (openI x home).1 zs) = wantL n size home x := by
  have hb := f.hh
  have ho := open_law f hx (fun i h0 h1 => by rw [hwf.sz i h0 (by rw [hx.1]; exact h1)]; exact hx.2) hdn hca hg
  have hf := open_form x home
  refine ⟨ho, fun h0 => ?_, fun zs => ?_⟩
  · unfold homesN wantL
    refine List.map_congr_left (fun i hi => ?_)
    have := List.mem_range.1 hi
    exact (ho.ok h0).2.2.1 i (by omega) (by omega)
  · have hs := ho.safe (nowI (crashI (openI x home).1 zs)) (fun i h0 h1 => by
      rw [(crash_now (openI x home).1 zs i h0 (by rw [hf.1, hx.1]; exact h1)).1]
      split
      · exact .inl rfl
      · exact .inr rfl)
    refine ⟨hs.1, ?_⟩
    unfold wantL
    refine List.map_congr_left (fun i hi => ?_)
    have := List.mem_range.1 hi
    exact hs.2 i (by omega) (by omega)
/-- A disk behind a crash. -/
structure Rest (n size home : Nat) (x : Dk) (k : Nat) : Prop where
  form : x.has.length = n ∧ x.size = size
  wf : Wf x k
  live : Live x
  ca : x.ca = fun _ => none
  hg : gd n size home (nowI x 0)
  hb : HP Bytes x
theorem Rest.hby {n size home : Nat} {x : Dk} {k : Nat} (h : Rest n size home x k) : Bytes (nowI x 0) := h.hb.2
/-- Armed, opened, and crashed. -/
theorem Rest.arm {n size home : Nat} (f : Fm n size home) {x : Dk} {k : Nat} (h : Rest n size home x k) (a : Int) (ha : I64 a) (zs : List Int) :
    OpenOk n size home { x with left := max a (-1) } (openI { x with left := max a (-1) } home) ∧ ((openI { x with left := max a (-1) } home).2 = 0 → homesN (openI { x with left := max a (-1) } home).1 home = wantL n size home x) ∧
      Rest n size home (crashI (openI { x with left := max a (-1) } home).1 zs) (k + 700) ∧ wantL n size home (crashI (openI { x with left := max a (-1) } home).1 zs) = wantL n size home x ∧ Wf (openI { x with left := max a (-1) } home).1 (k + 700) := by
  obtain ⟨x1, hx1⟩ : ∃ x1 : Dk, { x with left := max a (-1) } = x1 := ⟨_, rfl⟩
  have hform : x1.has.length = n ∧ x1.size = size := by rw [← hx1]; exact h.form
  have hwf : Wf x1 k := by rw [← hx1]; exact h.wf.arm a ha
  have hnow : nowI x1 = nowI x := by rw [← hx1]; rfl
  have hb1 : HP Bytes x1 := by rw [← hx1]; exact h.hb
  have hw : wantL n size home x1 = wantL n size home x := by unfold wantL; rw [hnow]
  rw [hx1]
  obtain ⟨o1, o2, o3⟩ := reopen_ok f hform hwf (by rw [← hx1]; exact h.live.2) (by rw [← hx1]; exact h.ca) (by rw [hnow]; exact h.hg)
  rw [hw] at o2 o3
  have hof := open_form x1 home
  have hwf2 := open_wf f hform hwf
  have hcf := crash_form (openI x1 home).1 zs
  have hn : 0 < (openI x1 home).1.has.length := by rw [hof.1, hform.1]; have := f.n3; omega
  exact ⟨o1, o2, ⟨⟨hcf.1.trans (hof.1.trans hform.1), hcf.2.trans (hof.2.trans hform.2)⟩, hwf2.crash zs, Live.crash _ zs, rfl, (o3 zs).1, (HP.opn f hform hb1 (headI_bytes [] size)).crash zs hn⟩, (o3 zs).2, hwf2⟩
/-- Strings stay where a disk is turned. -/
theorem str_keepD {w w' : World} {p b base n : Nat} {sv v : Value} {x : Dk} {k : Nat} {us : List Value} (h : w.ownsRow base 9 1 v n us) (hd : DskV w p b sv x k) (hc : Chg (OwnD p b sv) w w') : w'.ownsRow base 9 1 v n us :=
  own_chg' h hc (fun j cur fr hj hh => hd.not9 j cur fr hj hh)
theorem i64s_drop (zs : List Int) (j k : Nat) : (i64s (zs.drop k))[j]? = (i64s zs)[k + j]? := by simp [i64s, List.getElem?_drop]
/-- All numbers but the first. -/
theorem nums_tail (w : World) (b off n c : Nat) (zs : List Int) (h : SlI w (.slice (some ⟨b, off, none⟩) n c) zs) (hn : 0 < n) : ∃ v2, SlI w v2 (zs.drop 1) ∧ ∀ W : World, (Instr.slice 29 (.slice (some ⟨b, off, none⟩) n c) (some (.int .i64 1)) none none).run Try.prog W = .ok v2 W := by
  have he : Try.prog.elem 29 = 3 := by unfold Program.elem; rw [Try.underlying29]
  have hs : ∀ W : World, (sizeOf 3).run Try.prog W = .ok 1 W := fun W => by
    obtain ⟨i, hi, h1⟩ := Option.map_eq_some_iff.1 (show (Try.prog.info? 3).map (·.size) = some 1 by kernel_rfl)
    simp [sizeOf, typeInfo, hi, h1]
  have run : ∀ W : World, (Instr.slice 29 (.slice (some ⟨b, off, none⟩) n c) (some (.int .i64 1)) none none).run Try.prog W = .ok (sliced (some ⟨b, off, none⟩) 1 n c 1) W := fun W => by
    rw [run_slice_l W 29 (some ⟨b, off, none⟩) n c (by rw [he]; exact Try.underlying29) .i64 (1 : Int) (by omega) (by omega), he, hs]
    rfl
  refine ⟨_, ?_, run⟩
  rcases h with ⟨h1, _, _⟩ | ⟨ad, c', h1, h2, h3, h4, h5⟩
  · cases h1
  · injection h1 with e1 e2 e3
    injection e1 with e1
    subst e1 e2 e3
    unfold sliced
    split
    · rename_i hck
      have hz : zs.length = 1 := by omega
      exact .inr ⟨⟨b, off, none⟩, c - 1, by simp [hz], by simp [i64s], by rw [List.length_drop]; omega, by omega, fun j u hu => by
        have := (List.getElem?_eq_some_iff.1 hu).1
        simp [i64s, hz] at this⟩
    · refine .inr ⟨⟨b, off + 1, none⟩, c - 1, by simp [Addr.add], by simp [i64s], by simp; omega, by omega, fun j u hu => ?_⟩
      rw [i64s_drop] at hu
      have := h5 (1 + j) u hu
      rw [addr_add] at this ⊢
      rw [show off + 1 + j = off + (1 + j) by omega]
      exact this
end Go.Proofs.Ytkndnlhlglgmfaa
