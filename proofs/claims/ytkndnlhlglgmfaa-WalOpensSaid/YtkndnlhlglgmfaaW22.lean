/-
  What stands on a disk behind writes, a flush, a crash: plain laws. What a commit and an open leave on a disk, whatever is lost: plain laws.
-/
import Derived.Test.YtkndnlhlglgmfaaW20
namespace Go.Proofs.Ytkndnlhlglgmfaa
open Go.RowKit
def hasI (x : Dk) (i : Int) : List Int := x.has.getD i.toNat []
/-- A sector stands, and whatever is lost. -/
def Fix (x : Dk) (i : Int) (v : List Int) : Prop := hasI x i = v ∧ nowI x i = v
theorem nowI_ca {x y : Dk} (h1 : y.has = x.has) (h2 : y.ca = x.ca) (i : Int) : nowI y i = nowI x i := by unfold nowI; rw [h1, h2]
theorem commI_err (x : Dk) : (commI x).2 = 0 ∨ (commI x).2 = 30 := by unfold commI; split <;> simp
theorem commI_down {x : Dk} (h : (commI x).2 = 0) : (commI x).1.down = x.down := by
  unfold commI at h ⊢
  split
  · rename_i h0; rw [if_pos h0] at h; simp at h
  · rfl
theorem updI_same (ca : Int → Option (List Int)) (i : Int) (c : Option (List Int)) : updI ca i c i = c := by simp [updI]
theorem updI_ne (ca : Int → Option (List Int)) (i j : Int) (c : Option (List Int)) (h : j ≠ i) : updI ca i c j = ca j := by simp [updI, h]
theorem write_has (x : Dk) (i : Int) (xs : List Int) : (writeI x i xs).1.has = x.has := by
  unfold writeI
  split
  · rfl
  · split
    · rfl
    · rw [commI_has]
theorem write_now_ne (x : Dk) (i j : Int) (xs : List Int) (h : j ≠ i) : nowI (writeI x i xs).1 j = nowI x j := by
  unfold writeI
  split
  · rfl
  · split
    · rfl
    · unfold nowI
      rw [commI_has, commI_ca]
      dsimp only
      rw [updI_ne _ _ _ _ h]
theorem write_now (x : Dk) (i : Int) (xs : List Int) (hd : x.down = false) (hc : checkI x i xs.length = 0) : nowI (writeI x i xs).1 i = xs := by
  unfold writeI
  rw [if_neg (by rw [hd]; decide), if_neg (by rw [hc]; simp)]
  unfold nowI
  rw [commI_ca]
  dsimp only
  rw [updI_same]
  rfl
/-- Either it is written, or it is as it was. -/
theorem write_or (x : Dk) (i : Int) (xs : List Int) : nowI (writeI x i xs).1 i = xs ∨ nowI (writeI x i xs).1 i = nowI x i := by
  unfold writeI
  split
  · exact .inr rfl
  · split
    · exact .inr rfl
    · left
      unfold nowI
      rw [commI_ca]
      dsimp only
      rw [updI_same]
      rfl
theorem write_err (x : Dk) (i : Int) (xs : List Int) (hc : checkI x i xs.length = 0) : (writeI x i xs).2 = 0 ∨ (writeI x i xs).2 = 30 := by
  unfold writeI
  split
  · exact .inr rfl
  · rw [if_neg (by rw [hc]; simp)]
    exact commI_err _
theorem write_ok {x : Dk} {i : Int} {xs : List Int} (h : (writeI x i xs).2 = 0) : x.down = false ∧ checkI x i xs.length = 0 ∧ (writeI x i xs).1.down = false := by
  unfold writeI at h ⊢
  split at h
  · simp at h
  · rename_i hd
    have hd' : x.down = false := by simpa using hd
    split at h
    · rename_i h1; exact absurd h h1
    · rename_i h1
      refine ⟨hd', by omega, ?_⟩
      rw [if_neg hd, if_neg h1, commI_down h]
      exact hd'
theorem settle_now (x : Dk) (i : Int) (h0 : 0 ≤ i) (h1 : i < x.has.length) : hasI (settleI x) i = nowI x i ∧ nowI (settleI x) i = nowI x i := by
  have e : hasI (settleI x) i = nowI x i := by
    unfold hasI settleI nowI
    dsimp only
    have : i.toNat < x.has.length := by omega
    rw [List.getD_eq_getElem?_getD, List.getElem?_map, List.getElem?_range this]
    simp only [Option.map_some, Option.getD_some]
    rw [show ((i.toNat : Nat) : Int) = i by omega]
  exact ⟨e, by rw [← e]; rfl⟩
theorem flush_err (x : Dk) : (flushI x).2 = 0 ∨ (flushI x).2 = 30 := by
  unfold flushI
  split
  · exact .inr rfl
  · split
    · exact .inl rfl
    · exact commI_err x
/-- A flush that is done. -/
theorem flush_ok {x : Dk} (h : (flushI x).2 = 0) : x.down = false ∧ (flushI x).1.down = false ∧ (flushI x).1.ca = (fun _ => none) ∧ ∀ i : Int, 0 ≤ i → i < x.has.length → hasI (flushI x).1 i = nowI x i ∧ nowI (flushI x).1 i = nowI x i := by
  unfold flushI at h ⊢
  split at h
  · simp at h
  · rename_i hd
    have hd' : x.down = false := by simpa using hd
    rw [if_neg hd]
    split at h
    · rename_i h0
      rw [if_pos h0]
      refine ⟨hd', ?_, rfl, fun i h1 h2 => ?_⟩
      · show (commI x).1.down = false
        rw [commI_down h0]; exact hd'
      · have := settle_now (commI x).1 i h1 (by rw [commI_has]; exact h2)
        dsimp only
        rw [this.1, this.2, nowI_ca (commI_has x) (commI_ca x)]
        exact ⟨rfl, rfl⟩
    · rename_i h1; exact absurd h h1
/-- A flush that is not done leaves all as it was. -/
theorem flush_no {x : Dk} (h : (flushI x).2 ≠ 0) : (flushI x).1.has = x.has ∧ (flushI x).1.ca = x.ca := by
  unfold flushI at h ⊢
  split at h
  · rename_i hd; rw [if_pos hd]; exact ⟨rfl, rfl⟩
  · rename_i hd
    rw [if_neg hd]
    split at h
    · simp at h
    · rename_i h0; rw [if_neg h0]; exact ⟨commI_has x, commI_ca x⟩
theorem flush_now (x : Dk) (i : Int) (h0 : 0 ≤ i) (h1 : i < x.has.length) : nowI (flushI x).1 i = nowI x i := by
  by_cases h : (flushI x).2 = 0
  · exact ((flush_ok h).2.2.2 i h0 h1).2
  · exact nowI_ca (flush_no h).1 (flush_no h).2 i
theorem Fix.write {x : Dk} {i : Int} {v : List Int} (h : Fix x i v) (j : Int) (xs : List Int) (hj : i ≠ j) : Fix (writeI x j xs).1 i v :=
  ⟨by unfold hasI; rw [write_has]; exact h.1, by rw [write_now_ne x j i xs hj]; exact h.2⟩
theorem Fix.flush {x : Dk} {i : Int} {v : List Int} (h : Fix x i v) (h0 : 0 ≤ i) (h1 : i < x.has.length) : Fix (flushI x).1 i v := by
  by_cases he : (flushI x).2 = 0
  · have := (flush_ok he).2.2.2 i h0 h1
    exact ⟨this.1.trans h.2, this.2.trans h.2⟩
  · refine ⟨?_, ?_⟩
    · unfold hasI; rw [(flush_no he).1]; exact h.1
    · rw [nowI_ca (flush_no he).1 (flush_no he).2]; exact h.2
theorem dropAll_at (zs : List Int) : ∀ (ca : Int → Option (List Int)) (i : Int), dropAll ca zs i = if i ∈ zs then none else ca i := by
  induction zs with
  | nil => intro ca i; simp [dropAll]
  | cons z zs ih =>
    intro ca i
    show dropAll (updI ca z none) zs i = _
    rw [ih]
    by_cases h : i ∈ zs
    · simp [h]
    · by_cases h2 : i = z
      · subst h2; simp [h, updI]
      · simp [h, h2, updI]
theorem crash_now (x : Dk) (zs : List Int) (i : Int) (h0 : 0 ≤ i) (h1 : i < x.has.length) : nowI (crashI x zs) i = (if i ∈ zs then hasI x i else nowI x i) ∧ Fix (crashI x zs) i (if i ∈ zs then hasI x i else nowI x i) := by
  have e := settle_now { x with ca := dropAll x.ca zs } i h0 h1
  have e2 : nowI { x with ca := dropAll x.ca zs } i = (if i ∈ zs then hasI x i else nowI x i) := by
    unfold nowI hasI
    dsimp only
    rw [dropAll_at]
    split <;> simp
  rw [e2] at e
  exact ⟨e.2, e⟩
theorem crash_ca (x : Dk) (zs : List Int) : (crashI x zs).ca = (fun _ => none) := rfl
theorem Fix.crash {x : Dk} {i : Int} {v : List Int} (h : Fix x i v) (zs : List Int) (h0 : 0 ≤ i) (h1 : i < x.has.length) : nowI (crashI x zs) i = v := by
  rw [(crash_now x zs i h0 h1).1]
  split
  · exact h.1
  · exact h.2
/-- Changes in a row: the last one stands. -/
def recW (J : Nat → List Int) (base : Int → List Int) (l : List Int) : Nat → Int → List Int
  | 0, i => base i
  | k + 1, i => if i = l.getD k 0 then J k else recW J base l k i
theorem recW_congr {J J' : Nat → List Int} {base base' : Int → List Int} {l : List Int} (i : Int) : ∀ k, k ≤ l.length → (∀ j, j < k → J j = J' j) → (i ∉ l → base i = base' i) → (recW J base l k i = recW J' base' l k i ∨ (i ∈ l ∧ ∀ j, j < k → i ≠ l.getD j 0))
  | 0, _, _, hb => by
    by_cases h : i ∈ l
    · exact .inr ⟨h, fun j hj => by omega⟩
    · exact .inl (hb h)
  | k + 1, hk, hJ, hb => by
    unfold recW
    by_cases h : i = l.getD k 0
    · rw [if_pos h, if_pos h]; exact .inl (hJ k (by omega))
    · rw [if_neg h, if_neg h]
      rcases recW_congr i k (by omega) (fun j hj => hJ j (by omega)) hb with e | ⟨e1, e2⟩
      · exact .inl e
      · exact .inr ⟨e1, fun j hj => by
          by_cases e : j = k
          · rw [e]; exact h
          · exact e2 j (by omega)⟩
theorem mem_getD {l : List Int} {i : Int} (h : i ∈ l) : ∃ k, k < l.length ∧ l.getD k 0 = i := by
  obtain ⟨k, hk, e⟩ := List.getElem_of_mem h
  exact ⟨k, hk, by rw [List.getD_eq_getElem?_getD, List.getElem?_eq_getElem hk]; exact e⟩
theorem recW_eq {J J' : Nat → List Int} {base base' : Int → List Int} {l : List Int} (i : Int) (hJ : ∀ j, j < l.length → J j = J' j) (hb : i ∉ l → base i = base' i) : recW J base l l.length i = recW J' base' l l.length i := by
  rcases recW_congr i l.length (Nat.le_refl _) hJ hb with e | ⟨e1, e2⟩
  · exact e
  · obtain ⟨k, hk, e⟩ := mem_getD e1
    exact absurd e.symm (e2 k hk)
theorem recW_out {J : Nat → List Int} {base : Int → List Int} {l : List Int} {i : Int} : ∀ k, (∀ j, j < k → i ≠ l.getD j 0) → recW J base l k i = base i
  | 0, _ => rfl
  | k + 1, h => by
    unfold recW
    rw [if_neg (h k (by omega))]
    exact recW_out k (fun j hj => h j (by omega))
/-- What is written by changes, one by one, if none has an error. -/
theorem wrI_now (x : Dk) (cs : List ChI) : ∀ k, k ≤ cs.length → (wrI x (fun k => 1 + (cs.getD k default).at_) cs k).2 = 0 → ∀ i : Int, nowI (wrI x (fun k => 1 + (cs.getD k default).at_) cs k).1 (1 + i) = recW (fun k => (cs.getD k default).dat) (fun i => nowI x (1 + i)) (atsOf cs) k i
  | 0, _, _, _ => rfl
  | k + 1, hk, he, i => by
    have hg : (atsOf cs).getD k 0 = (cs.getD k default).at_ := by
      simp [atsOf, List.getD_eq_getElem?_getD, List.getElem?_eq_getElem (show k < cs.length by omega)]
    unfold wrI at he ⊢
    split at he
    · rename_i h0
      rw [if_pos h0]
      have ih := wrI_now x cs k (by omega) h0 i
      obtain ⟨q1, q2, _⟩ := write_ok he
      unfold recW
      rw [hg]
      by_cases e : i = (cs.getD k default).at_
      · rw [if_pos e, e]
        exact write_now _ _ _ q1 q2
      · rw [if_neg e, write_now_ne _ _ _ _ (by omega)]
        exact ih
    · rename_i h0; exact absurd he h0
theorem wrI_ne (x : Dk) (T : Nat → Int) (cs : List ChI) (i : Int) : ∀ k, (∀ j, j < k → i ≠ T j) → (nowI (wrI x T cs k).1 i = nowI x i) ∧ hasI (wrI x T cs k).1 i = hasI x i
  | 0, _ => ⟨rfl, rfl⟩
  | k + 1, h => by
    have ih := wrI_ne x T cs i k (fun j hj => h j (by omega))
    unfold wrI
    split
    · rw [write_now_ne _ _ _ _ (h k (by omega))]
      unfold hasI at ih ⊢
      rw [write_has]
      exact ih
    · exact ih
theorem wrI_err (x : Dk) (T : Nat → Int) (cs : List ChI) : ∀ k, k ≤ cs.length → (∀ j, j < k → 0 ≤ T j ∧ T j < x.has.length ∧ (cs.getD j default).dat.length = x.size) → (wrI x T cs k).2 = 0 ∨ (wrI x T cs k).2 = 30
  | 0, _, _ => .inl rfl
  | k + 1, hk, h => by
    have ih := wrI_err x T cs k (by omega) (fun j hj => h j (by omega))
    have hf := wrI_form x T cs k
    unfold wrI
    split
    · refine write_err _ _ _ ?_
      have := h k (by omega)
      unfold checkI
      rw [if_neg (by rw [hf.1]; omega), if_neg (by rw [hf.2]; exact fun hc => hc this.2.2)]
    · exact ih
theorem wrI_down (x : Dk) (T : Nat → Int) (cs : List ChI) : ∀ k, x.down = false → (wrI x T cs k).2 = 0 → (wrI x T cs k).1.down = false
  | 0, h, _ => h
  | k + 1, h, he => by
    unfold wrI at he ⊢
    split at he
    · rename_i h0; rw [if_pos h0]; exact (write_ok he).2.2
    · rename_i h0; exact absurd he h0
/-- With power that stays, nothing has an error. -/
theorem Live.writeOk {x : Dk} (h : Live x) (i : Int) (xs : List Int) (hc : checkI x i xs.length = 0) : (writeI x i xs).2 = 0 := by
  unfold writeI
  rw [if_neg (by rw [h.2]; decide), if_neg (by rw [hc]; simp)]
  exact (show Live { x with ca := updI x.ca i (some xs) } from h).comm.2
theorem Live.flushOk {x : Dk} (h : Live x) : (flushI x).2 = 0 := by
  unfold flushI
  rw [if_neg (by rw [h.2]; decide), if_pos h.comm.2]
theorem Live.wr {x : Dk} (h : Live x) (T : Nat → Int) (cs : List ChI) : ∀ k, k ≤ cs.length → (∀ j, j < k → 0 ≤ T j ∧ T j < x.has.length ∧ (cs.getD j default).dat.length = x.size) → (wrI x T cs k).2 = 0 ∧ Live (wrI x T cs k).1
  | 0, _, _ => ⟨rfl, h⟩
  | k + 1, hk, hh => by
    have ih := Live.wr h T cs k (by omega) (fun j hj => hh j (by omega))
    have hf := wrI_form x T cs k
    unfold wrI
    rw [if_pos ih.1]
    have := hh k (by omega)
    refine ⟨ih.2.writeOk _ _ ?_, ih.2.write _ _⟩
    unfold checkI
    rw [if_neg (by rw [hf.1]; omega), if_neg (by rw [hf.2]; exact fun hc => hc this.2.2)]
end Go.Proofs.Ytkndnlhlglgmfaa
namespace Go.Proofs.Ytkndnlhlglgmfaa
open Go.RowKit
/-- How many sectors, of which size; which of them are home. -/
structure Fm (n size : Nat) (home : Int) : Prop where
  n3 : 3 ≤ n
  n4 : n ≤ 65536
  s1 : 32 ≤ size
  s2 : size ≤ 4096
  h : (n : Int) / 2 = home
theorem Fm.hh {n size : Nat} {home : Int} (f : Fm n size home) : 1 ≤ home ∧ home ≤ 65536 ∧ 0 ≤ roomI n size home ∧ roomI n size home ≤ (n : Int) - 1 - home ∧ 16 + 8 * roomI n size home ≤ size ∧ 1 + home < n := by
  have := f.n3; have := f.n4; have := f.s1; have := f.s2; have := f.h
  unfold roomI
  omega
/-- A head that is right. -/
def gd (n size : Nat) (home : Int) (h : List Int) : Prop := (parseI h home (roomI n size home) size).2 = true
def HG (n size : Nat) (home : Int) (x : Dk) : Prop := gd n size home (hasI x 0) ∧ gd n size home (nowI x 0)
/-- What a wal would have, opened on such sectors. -/
def recH (n size : Nat) (home : Int) (c : Int → List Int) (i : Int) : List Int :=
  recW (fun k => c (1 + home + (k : Int))) (fun i => c (1 + i)) (parseI (c 0) home (roomI n size home) size).1 (parseI (c 0) home (roomI n size home) size).1.length i
theorem parse_headI {n size : Nat} {home : Int} (f : Fm n size home) (l : List Int) (hl : ∀ a ∈ l, 0 ≤ a ∧ a < home) (hr : (l.length : Int) ≤ roomI n size home) : parseI (headI l size) home (roomI n size home) size = (l, true) := by
  have h := f.hh
  have := f.s2
  exact parse_head l size home _ (by omega) (by omega) hl hr (by omega)
theorem parse_none {n size : Nat} {home : Int} (f : Fm n size home) : parseI (headI [] size) home (roomI n size home) size = ([], true) :=
  parse_headI f [] (fun a h => by simp at h) (by have := f.hh; simpa using this.2.2.1)
theorem chkE_ok {size : Nat} {cs : List ChI} : ∀ k, chkE size cs k = 0 → ∀ j, j < k → (cs.getD j default).dat.length = size
  | 0, _, j, hj => by omega
  | k + 1, h, j, hj => by
    unfold chkE at h
    split at h
    · omega
    · rename_i h1
      rw [not_or] at h1
      by_cases e : j = k
      · rw [e]; exact Classical.not_not.1 h1.1
      · exact chkE_ok k h j (by omega)
theorem chk_ok {size : Nat} {home room : Int} {cs : List ChI} (h : chkI size home room cs = 0) : (∀ j, j < cs.length → 0 ≤ (cs.getD j default).at_ ∧ (cs.getD j default).at_ < home ∧ (cs.getD j default).dat.length = size) ∧ (cs.length : Int) ≤ room := by
  have hin := fun j hj => chkI_in h j hj
  unfold chkI at h
  split at h
  · omega
  · split at h
    · omega
    · rename_i h1
      exact ⟨fun j hj => ⟨(hin j hj).1, (hin j hj).2, chkE_ok _ h j hj⟩, by omega⟩
theorem ats_bd {cs : List ChI} {home : Int} (h : ∀ j, j < cs.length → 0 ≤ (cs.getD j default).at_ ∧ (cs.getD j default).at_ < home) : ∀ a ∈ atsOf cs, 0 ≤ a ∧ a < home := by
  intro a ha
  obtain ⟨c, hc, rfl⟩ := List.mem_map.1 ha
  obtain ⟨k, hk, rfl⟩ := List.getElem_of_mem hc
  have := h k hk
  rw [List.getD_eq_getElem?_getD, List.getElem?_eq_getElem hk] at this
  exact this
/-- With power that stays. -/
theorem four_live {x : Dk} (h : Live x) (T : Nat → Int) (cs : List ChI) (hd : List Int) (hn : 0 < x.has.length) (hT : ∀ j, j < cs.length → 0 ≤ T j ∧ T j < x.has.length ∧ (cs.getD j default).dat.length = x.size) (hh : hd.length = x.size) :
    (fourI x T cs hd).2 = 0 ∧ Live (fourI x T cs hd).1 ∧ (fourI x T cs hd).1.ca = (fun _ => none) ∧ ∀ i : Int, 0 ≤ i → i < x.has.length → nowI (fourI x T cs hd).1 i = if i = 0 then hd else nowI (wrI x T cs cs.length).1 i := by
  obtain ⟨e1, l1⟩ := h.wr T cs cs.length (Nat.le_refl _) hT
  have f1 := wrI_form x T cs cs.length
  have e2 := l1.flushOk
  have l2 := l1.flush
  have f2 := flush_form (wrI x T cs cs.length).1
  have hc : checkI (flushI (wrI x T cs cs.length).1).1 0 hd.length = 0 := by
    unfold checkI
    rw [if_neg (by rw [f2.1, f1.1]; omega), if_neg (by rw [f2.2, f1.2]; exact fun hc => hc hh)]
  have e3 := l2.writeOk 0 hd hc
  have l3 := l2.write 0 hd
  have f3 := write_form (flushI (wrI x T cs cs.length).1).1 0 hd
  have e4 := l3.flushOk
  have l4 := l3.flush
  have hr : fourI x T cs hd = fourS x T cs hd 4 := fourI_all x T cs hd (fun i hi => by
    match i, hi with
    | 0, _ => rfl
    | 1, _ => exact e1
    | 2, _ => exact e2
    | 3, _ => exact e3
    | 4, _ => exact e4)
  rw [hr]
  have h4 := flush_ok e4
  refine ⟨e4, l4, h4.2.2.1, fun i h0 h1 => ?_⟩
  show nowI (flushI _).1 i = _
  rw [(h4.2.2.2 i h0 (by rw [f3.1, f2.1, f1.1]; exact h1)).2]
  by_cases hi : i = 0
  · rw [if_pos hi, hi]
    exact write_now _ _ _ l2.2 hc
  · rw [if_neg hi, write_now_ne _ _ _ _ hi]
    exact flush_now _ _ h0 (by rw [f1.1]; exact h1)
theorem commit_live {n size : Nat} {home : Int} (f : Fm n size home) {x : Dk} (hx : x.has.length = n ∧ x.size = size) (h : Live x) (cs : List ChI) (hc : chkI size home (roomI n size home) cs = 0) :
    (commitI x home false cs).2 = 0 ∧ Live (commitI x home false cs).1 ∧ (0 < cs.length → (commitI x home false cs).1.ca = fun _ => none) ∧ ∀ i : Int, 0 ≤ i → i < home → nowI (commitI x home false cs).1 (1 + i) = recW (fun k => (cs.getD k default).dat) (fun i => nowI x (1 + i)) (atsOf cs) cs.length i := by
  have hb := f.hh
  obtain ⟨hok, hlen⟩ := chk_ok hc
  unfold commitI
  by_cases hn0 : cs.length = 0
  · rw [if_pos hn0]
    exact ⟨rfl, h, fun h => by omega, fun i _ _ => by rw [hn0]; rfl⟩
  rw [if_neg hn0, if_neg (by simp), hx.1, hx.2, hc, if_neg (by simp)]
  obtain ⟨e1, l1, c1, n1⟩ := four_live h (fun k => 1 + home + (k : Int)) cs (headI (atsOf cs) size) (by omega) (fun j hj => ⟨by omega, by rw [hx.1]; omega, by rw [hx.2]; exact (hok j hj).2.2⟩) (by rw [hx.2]; exact pad_len _ _)
  have f1 := fourI_form x (fun k => 1 + home + (k : Int)) cs (headI (atsOf cs) size)
  rw [if_neg (by rw [e1]; simp)]
  obtain ⟨e2, l2, c2, n2⟩ := four_live l1 (fun k => 1 + (cs.getD k default).at_) cs (headI [] size) (by rw [f1.1, hx.1]; omega) (fun j hj => ⟨by have := hok j hj; omega, by rw [f1.1, hx.1]; have := hok j hj; omega, by rw [f1.2, hx.2]; exact (hok j hj).2.2⟩) (by rw [f1.2, hx.2]; exact pad_len _ _)
  refine ⟨e2, l2, fun _ => c2, fun i h0 h1 => ?_⟩
  rw [n2 (1 + i) (by omega) (by rw [f1.1, hx.1]; omega), if_neg (by omega)]
  have e3 := (l1.wr (fun k => 1 + (cs.getD k default).at_) cs cs.length (Nat.le_refl _) (fun j hj => ⟨by have := hok j hj; omega, by rw [f1.1, hx.1]; have := hok j hj; omega, by rw [f1.2, hx.2]; exact (hok j hj).2.2⟩)).1
  rw [wrI_now _ cs cs.length (Nat.le_refl _) e3 i]
  have hl : (atsOf cs).length = cs.length := by simp [atsOf]
  rw [← hl]
  refine recW_eq i (fun _ _ => rfl) (fun _ => ?_)
  rw [n1 (1 + i) (by omega) (by rw [hx.1]; omega), if_neg (by omega)]
  exact (wrI_ne x _ cs (1 + i) cs.length (fun j hj => by omega)).1
/-- Heads stay right. -/
theorem HG.ne {n size : Nat} {home : Int} {x y : Dk} (h : HG n size home x) (h1 : hasI y 0 = hasI x 0) (h2 : nowI y 0 = nowI x 0) : HG n size home y := ⟨by rw [h1]; exact h.1, by rw [h2]; exact h.2⟩
theorem HG.write {n size : Nat} {home : Int} {x : Dk} (h : HG n size home x) (hd : List Int) (hg : gd n size home hd) : HG n size home (writeI x 0 hd).1 := by
  refine ⟨by unfold hasI; rw [write_has]; exact h.1, ?_⟩
  rcases write_or x 0 hd with e | e
  · rw [e]; exact hg
  · rw [e]; exact h.2
theorem HG.flush {n size : Nat} {home : Int} {x : Dk} (h : HG n size home x) (hn : 0 < x.has.length) : HG n size home (flushI x).1 := by
  refine ⟨?_, by rw [flush_now x 0 (by omega) (by omega)]; exact h.2⟩
  by_cases he : (flushI x).2 = 0
  · rw [((flush_ok he).2.2.2 0 (by omega) (by omega)).1]; exact h.2
  · unfold hasI; rw [(flush_no he).1]; exact h.1
theorem HG.four {n size : Nat} {home : Int} {x : Dk} (h : HG n size home x) (hn : 0 < x.has.length) (T : Nat → Int) (cs : List ChI) (hd : List Int) (hT : ∀ j, j < cs.length → 0 ≠ T j) (hg : gd n size home hd) : HG n size home (fourI x T cs hd).1 := by
  have w1 := wrI_ne x T cs 0 cs.length hT
  have f1 := wrI_form x T cs cs.length
  have h1 : HG n size home (wrI x T cs cs.length).1 := h.ne w1.2 w1.1
  have h2 := h1.flush (by rw [f1.1]; exact hn)
  have f2 := flush_form (wrI x T cs cs.length).1
  have h3 := h2.write hd hg
  have f3 := write_form (flushI (wrI x T cs cs.length).1).1 0 hd
  have h4 := h3.flush (by rw [f3.1, f2.1, f1.1]; exact hn)
  unfold fourI
  split
  · exact h1
  · split
    · exact h2
    · split
      · exact h3
      · exact h4
theorem HG.commit {n size : Nat} {home : Int} (f : Fm n size home) {x : Dk} (hx : x.has.length = n ∧ x.size = size) (h : HG n size home x) (dn : Bool) (cs : List ChI) : HG n size home (commitI x home dn cs).1 := by
  have hb := f.hh
  unfold commitI
  split
  · exact h
  · split
    · exact h
    · split
      · exact h
      · rename_i hc
        rw [hx.1, hx.2] at hc
        obtain ⟨hok, hlen⟩ := chk_ok (Classical.not_not.1 hc)
        have hats := ats_bd (fun j hj => ⟨(hok j hj).1, (hok j hj).2.1⟩)
        have h1 := h.four (by omega) (fun k => 1 + home + (k : Int)) cs (headI (atsOf cs) x.size) (fun j hj => by omega) (by unfold gd; rw [hx.2, parse_headI f _ hats (by rw [show (atsOf cs).length = cs.length by simp [atsOf]]; exact hlen)])
        split
        · exact h1
        · refine h1.four (by rw [(fourI_form _ _ _ _).1]; omega) _ cs (headI [] x.size) (fun j hj => ?_) (by unfold gd; rw [hx.2, parse_none f])
          have := (hok j hj).1
          show (0 : Int) ≠ 1 + _
          omega
/-- Whatever is lost, there is what there was to be. -/
def Safe (n size : Nat) (home : Int) (c : Int → List Int) (z : Dk) : Prop := ∀ y : Int → List Int, (∀ i : Int, 0 ≤ i → i < n → y i = hasI z i ∨ y i = nowI z i) → gd n size home (y 0) ∧ ∀ i : Int, 0 ≤ i → i < home → recH n size home y i = recH n size home c i
theorem Fix.y {z : Dk} {i : Int} {v : List Int} (h : Fix z i v) {y : Int → List Int} (hy : y i = hasI z i ∨ y i = nowI z i) : y i = v := by
  rcases hy with e | e
  · rw [e, h.1]
  · rw [e, h.2]
/-- Homes are being written. -/
structure S1 (home : Int) (c : Int → List Int) (l : List Int) (z : Dk) : Prop where
  hd : Fix z 0 (c 0)
  jr : ∀ k, k < l.length → Fix z (1 + home + (k : Int)) (c (1 + home + (k : Int)))
  ho : ∀ i : Int, 0 ≤ i → i < home → i ∉ l → Fix z (1 + i) (c (1 + i))
/-- Homes are written, and stand. -/
structure S2 (n size : Nat) (home : Int) (c : Int → List Int) (l : List Int) (z : Dk) : Prop where
  h1 : hasI z 0 = c 0 ∨ hasI z 0 = headI [] size
  h2 : nowI z 0 = c 0 ∨ nowI z 0 = headI [] size
  jr : ∀ k, k < l.length → Fix z (1 + home + (k : Int)) (c (1 + home + (k : Int)))
  ho : ∀ i : Int, 0 ≤ i → i < home → Fix z (1 + i) (recH n size home c i)
theorem S1.safe {n size : Nat} {home : Int} (f : Fm n size home) {c : Int → List Int} {l : List Int} {z : Dk} (h : S1 home c l z) (hl : parseI (c 0) home (roomI n size home) size = (l, true)) : Safe n size home c z := by
  intro y hy
  have hb := f.hh
  have e0 := h.hd.y (hy 0 (by omega) (by omega))
  have hpb := parse_bd (c 0) home (roomI n size home) size hb.1 hb.2.2.1
  rw [hl] at hpb
  have hpb1 : (l.length : Int) ≤ roomI n size home := hpb.1
  refine ⟨by unfold gd; rw [e0, hl], fun i h0 h1 => ?_⟩
  unfold recH
  rw [e0, hl]
  exact recW_eq i (fun j hj => (h.jr j hj).y (hy _ (by omega) (by omega))) (fun hi => (h.ho i h0 h1 hi).y (hy _ (by omega) (by omega)))
theorem recH_out {n size : Nat} {home : Int} {c : Int → List Int} {l : List Int} (hl : parseI (c 0) home (roomI n size home) size = (l, true)) {i : Int} (hi : i ∉ l) : recH n size home c i = c (1 + i) := by
  unfold recH
  rw [hl]
  refine recW_out l.length (fun j hj e => hi ?_)
  have hj' : j < l.length := hj
  rw [e]
  show l.getD j 0 ∈ l
  rw [List.getD_eq_getElem?_getD, List.getElem?_eq_getElem hj']
  exact List.getElem_mem hj'
theorem S2.safe {n size : Nat} {home : Int} (f : Fm n size home) {c : Int → List Int} {l : List Int} {z : Dk} (h : S2 n size home c l z) (hl : parseI (c 0) home (roomI n size home) size = (l, true)) : Safe n size home c z := by
  intro y hy
  have hb := f.hh
  have e0 : y 0 = c 0 ∨ y 0 = headI [] size := by
    rcases hy 0 (by omega) (by omega) with e | e
    · rw [e]; exact h.h1
    · rw [e]; exact h.h2
  have hpb := parse_bd (c 0) home (roomI n size home) size hb.1 hb.2.2.1
  rw [hl] at hpb
  have hpb1 : (l.length : Int) ≤ roomI n size home := hpb.1
  rcases e0 with e0 | e0
  · refine ⟨by unfold gd; rw [e0, hl], fun i h0 h1 => ?_⟩
    have e1 : recH n size home c i = recW (fun k => c (1 + home + (k : Int))) (fun i => c (1 + i)) l l.length i := by unfold recH; rw [hl]
    have e2 : recH n size home y i = recW (fun k => y (1 + home + (k : Int))) (fun i => y (1 + i)) l l.length i := by unfold recH; rw [e0, hl]
    rw [e1, e2]
    exact recW_eq i (fun j hj => (h.jr j hj).y (hy _ (by omega) (by omega))) (fun hi => ((h.ho i h0 h1).y (hy _ (by omega) (by omega))).trans (recH_out hl hi))
  · refine ⟨by unfold gd; rw [e0, parse_none f], fun i h0 h1 => ?_⟩
    have e2 : recH n size home y i = y (1 + i) := by unfold recH; rw [e0, parse_none f]; rfl
    rw [e2]
    exact (h.ho i h0 h1).y (hy _ (by omega) (by omega))
/-- A disk that has nothing cached. -/
theorem fix_none {x : Dk} (h : x.ca = fun _ => none) (i : Int) : Fix x i (nowI x i) := ⟨by unfold hasI nowI; rw [h]; rfl, rfl⟩
theorem fourI_eq (x : Dk) (T : Nat → Int) (cs : List ChI) (hd : List Int) : fourI x T cs hd = if (wrI x T cs cs.length).2 ≠ 0 then wrI x T cs cs.length else if (flushI (wrI x T cs cs.length).1).2 ≠ 0 then flushI (wrI x T cs cs.length).1 else
    if (writeI (flushI (wrI x T cs cs.length).1).1 0 hd).2 ≠ 0 then writeI (flushI (wrI x T cs cs.length).1).1 0 hd else flushI (writeI (flushI (wrI x T cs cs.length).1).1 0 hd).1 := rfl
/-- What Open leaves. -/
structure OpenOk (n size : Nat) (home : Int) (x : Dk) (r : Dk × Int) : Prop where
  err : r.2 = 0 ∨ r.2 = 30
  safe : Safe n size home (nowI x) r.1
  ok : r.2 = 0 → r.1.down = false ∧ r.1.ca = (fun _ => none) ∧ (∀ i : Int, 0 ≤ i → i < home → nowI r.1 (1 + i) = recH n size home (nowI x) i) ∧ (r.1 = x ∧ (parseI (nowI x 0) home (roomI n size home) size).1 = [] ∨ nowI r.1 0 = headI [] size)
  live : Live x → r.2 = 0 ∧ Live r.1
theorem open_law {n size : Nat} {home : Int} (f : Fm n size home) {x : Dk} (hx : x.has.length = n ∧ x.size = size) (hsz : ∀ i : Int, 0 ≤ i → i < n → (nowI x i).length = size) (hdn : x.down = false) (hca : x.ca = fun _ => none) (hg : gd n size home (nowI x 0)) : OpenOk n size home x (openI x home) := by
  have hb := f.hh
  have hfix := fun i => fix_none hca i
  unfold openI
  rw [hx.1, hx.2]
  obtain ⟨l, hl⟩ : ∃ l, parseI (nowI x 0) home (roomI n size home) size = (l, true) := ⟨_, Prod.ext rfl hg⟩
  have hpb := parse_bd (nowI x 0) home (roomI n size home) size hb.1 hb.2.2.1
  rw [hl] at hpb ⊢
  dsimp only at hpb ⊢
  rw [if_neg (by simp)]
  by_cases h0 : l = []
  · rw [if_pos h0]
    have hrec : ∀ i : Int, nowI x (1 + i) = recH n size home (nowI x) i := fun i => by unfold recH; rw [hl, h0]; rfl
    refine ⟨.inl rfl, ?_, fun _ => ⟨hdn, hca, fun i _ _ => hrec i, .inl ⟨rfl, by rw [hl, h0]⟩⟩, fun h => ⟨rfl, h⟩⟩
    exact S1.safe f ⟨hfix 0, fun k _ => hfix _, fun i _ _ _ => hfix _⟩ hl
  rw [if_neg h0]
  have hjl := jrnl_len x home l
  have hja := fun k hk => jrnl_at x home l k hk
  obtain ⟨cs, hcs⟩ : ∃ cs, jrnl x home l = cs := ⟨_, rfl⟩
  rw [hcs] at hjl hja ⊢
  have hats : atsOf cs = l := by
    rw [← hcs]
    apply List.ext_getElem
    · simp [atsOf, jrnl]
    · intro k h1 h2
      simp [atsOf, jrnl]
      rw [List.getElem?_eq_getElem h2]; rfl
  have hT : ∀ j, j < cs.length → 0 ≤ 1 + (cs.getD j default).at_ ∧ 1 + (cs.getD j default).at_ < x.has.length ∧ (cs.getD j default).dat.length = x.size := fun j hj => by
    rw [hjl] at hj
    rw [hja j hj, hx.1, hx.2]
    have h1 := getD_all hpb.2 j hj
    have h2 := hpb.1
    refine ⟨?_, ?_, hsz _ (by omega) (by omega)⟩
    · show 0 ≤ 1 + l.getD j 0; omega
    · show 1 + l.getD j 0 < n; omega
  have hTin : ∀ j, j < cs.length → l.getD j 0 ∈ l ∧ (cs.getD j default).at_ = l.getD j 0 := fun j hj => by
    rw [hjl] at hj
    rw [hja j hj]
    refine ⟨?_, rfl⟩
    rw [List.getD_eq_getElem?_getD, List.getElem?_eq_getElem hj]; exact List.getElem_mem hj
  -- the four steps
  have s1 : S1 home (nowI x) l (wrI x (fun k => 1 + (cs.getD k default).at_) cs cs.length).1 := by
    have hne : ∀ i : Int, (∀ j, j < cs.length → i ≠ 1 + (cs.getD j default).at_) → Fix (wrI x (fun k => 1 + (cs.getD k default).at_) cs cs.length).1 i (nowI x i) := fun i hi => by
      have := wrI_ne x (fun k => 1 + (cs.getD k default).at_) cs i cs.length hi
      exact ⟨this.2.trans (hfix i).1, this.1.trans (hfix i).2⟩
    refine ⟨hne 0 (fun j hj => ?_), fun k hk => hne _ (fun j hj => ?_), fun i h1 h2 h3 => hne _ (fun j hj => ?_)⟩
    · have h1 := (hTin j hj).2; have := hpb.2 _ (hTin j hj).1; omega
    · have h1 := (hTin j hj).2; have := hpb.2 _ (hTin j hj).1; omega
    · intro e
      have h4 := (hTin j hj)
      exact h3 (by rw [show i = l.getD j 0 by omega]; exact h4.1)
  have f1 := wrI_form x (fun k => 1 + (cs.getD k default).at_) cs cs.length
  have e1 := wrI_err x (fun k => 1 + (cs.getD k default).at_) cs cs.length (Nat.le_refl _) hT
  have n1 := fun he => wrI_now x cs cs.length (Nat.le_refl _) he
  have d1 := wrI_down x (fun k => 1 + (cs.getD k default).at_) cs cs.length hdn
  have hlive : Live x → (fourI x (fun k => 1 + (cs.getD k default).at_) cs (headI [] size)).2 = 0 ∧ Live (fourI x (fun k => 1 + (cs.getD k default).at_) cs (headI [] size)).1 := fun h => by
    have := four_live h (fun k => 1 + (cs.getD k default).at_) cs (headI [] size) (by omega) hT (by rw [hx.2]; exact pad_len _ _)
    exact ⟨this.1, this.2.1⟩
  obtain ⟨R, hR⟩ : ∃ R, fourI x (fun k => 1 + (cs.getD k default).at_) cs (headI [] size) = R := ⟨_, rfl⟩
  rw [hR] at hlive ⊢
  rw [fourI_eq] at hR
  obtain ⟨z1, hz1⟩ : ∃ z1, wrI x (fun k => 1 + (cs.getD k default).at_) cs cs.length = z1 := ⟨_, rfl⟩
  rw [hz1] at s1 f1 e1 n1 d1 hR
  by_cases q1 : z1.2 ≠ 0
  · rw [if_pos q1] at hR
    subst hR
    exact ⟨e1, s1.safe f hl, fun h => absurd h q1, hlive⟩
  rw [if_neg q1] at hR
  have q1' : z1.2 = 0 := by omega
  have e2 := flush_err z1.1
  have f2 := flush_form z1.1
  by_cases q2 : (flushI z1.1).2 ≠ 0
  · rw [if_pos q2] at hR
    have s2 : S1 home (nowI x) l (flushI z1.1).1 := ⟨s1.hd.flush (by omega) (by rw [f1.1, hx.1]; omega), fun k hk => (s1.jr k hk).flush (by omega) (by rw [f1.1, hx.1]; have := hpb.1; omega), fun i h1 h2 h3 => (s1.ho i h1 h2 h3).flush (by omega) (by rw [f1.1, hx.1]; omega)⟩
    subst hR
    exact ⟨e2, s2.safe f hl, fun h => absurd h q2, hlive⟩
  rw [if_neg q2] at hR
  have q2' : (flushI z1.1).2 = 0 := by omega
  have k2 := flush_ok q2'
  have s2 : S2 n size home (nowI x) l (flushI z1.1).1 := by
    have h0 := k2.2.2.2 0 (by omega) (by rw [f1.1, hx.1]; omega)
    refine ⟨.inl (h0.1.trans s1.hd.2), .inl (h0.2.trans s1.hd.2), fun k hk => (s1.jr k hk).flush (by omega) (by rw [f1.1, hx.1]; have := hpb.1; omega), fun i h1 h2 => ?_⟩
    have hi := k2.2.2.2 (1 + i) (by omega) (by rw [f1.1, hx.1]; omega)
    have e : nowI z1.1 (1 + i) = recH n size home (nowI x) i := by
      rw [n1 q1' i]
      have hcl : cs.length = l.length := hjl
      unfold recH
      rw [hl, hats, hcl]
      refine recW_eq i (fun j hj => ?_) (fun _ => rfl)
      rw [hja j hj]
    exact ⟨hi.1.trans e, hi.2.trans e⟩
  have s3 : S2 n size home (nowI x) l (writeI (flushI z1.1).1 0 (headI [] size)).1 := by
    refine ⟨by unfold hasI; rw [write_has]; exact s2.h1, ?_, fun k hk => (s2.jr k hk).write _ _ (by omega), fun i h1 h2 => (s2.ho i h1 h2).write _ _ (by omega)⟩
    rcases write_or (flushI z1.1).1 0 (headI [] size) with e | e
    · exact .inr e
    · rw [e]; exact s2.h2
  have hc : checkI (flushI z1.1).1 0 (headI [] size).length = 0 := by
    unfold checkI
    have hpl : (headI [] size).length = size := pad_len _ _
    rw [if_neg (by rw [f2.1, f1.1, hx.1]; omega), if_neg (by rw [f2.2, f1.2, hx.2]; exact fun hc => hc hpl)]
  have e3 := write_err (flushI z1.1).1 0 (headI [] size) hc
  have f3 := write_form (flushI z1.1).1 0 (headI [] size)
  by_cases q3 : (writeI (flushI z1.1).1 0 (headI [] size)).2 ≠ 0
  · rw [if_pos q3] at hR
    subst hR
    exact ⟨e3, s3.safe f hl, fun h => absurd h q3, hlive⟩
  rw [if_neg q3] at hR
  have q3' : (writeI (flushI z1.1).1 0 (headI [] size)).2 = 0 := by omega
  have e4 := flush_err (writeI (flushI z1.1).1 0 (headI [] size)).1
  have hlen3 : (writeI (flushI z1.1).1 0 (headI [] size)).1.has.length = n := by rw [f3.1, f2.1, f1.1, hx.1]
  have s4 : S2 n size home (nowI x) l (flushI (writeI (flushI z1.1).1 0 (headI [] size)).1).1 := by
    refine ⟨?_, by rw [flush_now _ 0 (by omega) (by rw [hlen3]; omega)]; exact s3.h2, fun k hk => (s3.jr k hk).flush (by omega) (by rw [hlen3]; have := hpb.1; omega), fun i h1 h2 => (s3.ho i h1 h2).flush (by omega) (by rw [hlen3]; omega)⟩
    by_cases he : (flushI (writeI (flushI z1.1).1 0 (headI [] size)).1).2 = 0
    · rw [((flush_ok he).2.2.2 0 (by omega) (by rw [hlen3]; omega)).1]; exact s3.h2
    · unfold hasI; rw [(flush_no he).1]; exact s3.h1
  have w3 := write_ok q3'
  have n3 := write_now (flushI z1.1).1 0 (headI [] size) w3.1 w3.2.1
  subst hR
  refine ⟨e4, s4.safe f hl, fun h => ?_, hlive⟩
  have k4 := flush_ok h
  exact ⟨k4.2.1, k4.2.2.1, fun i h1 h2 => (s4.ho i h1 h2).2, .inr ((k4.2.2.2 0 (by omega) (by rw [hlen3]; omega)).2.trans n3)⟩
end Go.Proofs.Ytkndnlhlglgmfaa
