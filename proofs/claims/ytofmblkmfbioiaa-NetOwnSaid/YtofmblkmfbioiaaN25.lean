/-
  Many calls, one behind the other.
-/
import Derived.Test.YtofmblkmfbioiaaN24
namespace Go.Proofs.Ytofmblkmfbioiaa
open Go.RowKit
def stepO (ls : List Let) (o : OpI) : List Let := stepI ls o.kind o.at_ o.frm o.to_ o.dat
def sentO (s : Int) (o : OpI) : Int := s + stepS o.kind o.frm o.to_
def playI (ls : List Let) (os : List OpI) : List Let := os.foldl stepO ls
def sentI' (s : Int) (os : List OpI) : Int := os.foldl sentO s
theorem take_last (os : List OpI) (k : Nat) (h : k < os.length) : os.take (k + 1) = os.take k ++ [os.getD k default] := by
  rw [List.take_add_one, List.getD_eq_getElem?_getD, List.getElem?_eq_getElem h]; simp
theorem playI_take (ls : List Let) (os : List OpI) (k : Nat) (h : k < os.length) : playI ls (os.take (k + 1)) = stepO (playI ls (os.take k)) (os.getD k default) := by
  unfold playI; rw [take_last os k h, List.foldl_append]; rfl
theorem sentI_take (s : Int) (os : List OpI) (k : Nat) (h : k < os.length) : sentI' s (os.take (k + 1)) = sentO (sentI' s (os.take k)) (os.getD k default) := by
  unfold sentI'; rw [take_last os k h, List.foldl_append]; rfl
theorem stepI_len (ls : List Let) (k a f t : Int) (xs : List Int) : (stepI ls k a f t xs).length ≤ ls.length + 1 := by
  unfold stepI
  repeat' split
  all_goals simp [List.length_eraseIdx]
  all_goals (try split) <;> omega
theorem stepS_le (k f t : Int) : 0 ≤ stepS k f t ∧ stepS k f t ≤ 1 := by
  unfold stepS
  repeat' split
  all_goals omega
/-- Every letter's bytes are few. -/
def Few (ls : List Let) : Prop := ∀ x ∈ ls, x.2.2.length ≤ 1000
theorem Few.at_ {ls : List Let} (h : Few ls) (j : Nat) (hj : j < ls.length) : (ls.getD j default).2.2.length ≤ 1000000 := by
  have := h (ls.getD j default) (by rw [List.getD_eq_getElem?_getD, List.getElem?_eq_getElem hj]; exact List.getElem_mem hj)
  omega
theorem Few.nil : Few [] := fun x hx => by simp at hx
theorem Few.step {ls : List Let} (h : Few ls) (k a f t : Int) (xs : List Int) (hx : xs.length ≤ 1000) : Few (stepI ls k a f t xs) := by
  have one : ∀ y : Let, y.2.2.length ≤ 1000 → Few (ls ++ [y]) := fun y hy x hm => by
    rcases List.mem_append.1 hm with hm | hm
    · exact h x hm
    · obtain rfl := List.mem_singleton.1 hm; exact hy
  have er : Few (ls.eraseIdx a.toNat) := fun x hm => h x (List.mem_of_mem_eraseIdx hm)
  unfold stepI
  split
  · split
    · exact one _ hx
    · exact h
  · split
    · split
      · exact er
      · exact h
    · split
      · split
        · exact er
        · exact h
      · split
        · split
          · rename_i hat
            obtain ⟨k, rfl, hk⟩ := atI_nat hat
            rw [Int.toNat_natCast]
            exact one _ (h _ (by rw [List.getD_eq_getElem?_getD, List.getElem?_eq_getElem hk]; exact List.getElem_mem hk))
          · exact h
        · split
          · split
            · intro x hm
              rcases List.mem_or_eq_of_mem_set hm with hm | rfl
              · exact h x hm
              · exact hx
            · exact h
          · exact h
theorem playI_len (ls : List Let) : ∀ (os : List OpI), (playI ls os).length ≤ ls.length + os.length := by
  intro os
  induction os generalizing ls with
  | nil => simp [playI]
  | cons o os ih =>
    have h1 := ih (stepO ls o)
    have h2 := stepI_len ls o.kind o.at_ o.frm o.to_ o.dat
    show (playI (stepO ls o) os).length ≤ _
    unfold stepO at h1
    rw [List.length_cons]
    unfold stepO
    omega
theorem sentI_le (s : Int) : ∀ (os : List OpI), s ≤ sentI' s os ∧ sentI' s os ≤ s + os.length := by
  intro os
  induction os generalizing s with
  | nil => simp [sentI']
  | cons o os ih =>
    have h1 := ih (sentO s o)
    have h2 := stepS_le o.kind o.frm o.to_
    show s ≤ sentI' (sentO s o) os ∧ sentI' (sentO s o) os ≤ _
    unfold sentO at h1 ⊢
    rw [List.length_cons]
    omega
theorem playI_few {ls : List Let} (h : Few ls) : ∀ (os : List OpI), (∀ j, j < os.length → (os.getD j default).dat.length ≤ 1000) → Few (playI ls os) := by
  intro os
  induction os generalizing ls with
  | nil => exact fun _ => h
  | cons o os ih =>
    intro ho
    exact ih (h.step _ _ _ _ _ (by simpa using ho 0 (by simp))) (fun j hj => by simpa using ho (j + 1) (by simpa using hj))
/-- A net and the document's list of its letters, since the world w0. -/
def PlayAt (w0 : World) (p : Nat) (lv0 xv0 : Value) (ls : List Let) (sent : Int) (lv xv : Value) (w : World) : Prop :=
  ∃ ds, NetAt w p lv ds ls sent ∧ XAt w 0 xv ls ∧ Chg (fun i => i = p ∨ lv0.ownBlock = some i ∨ xv0.ownBlock = some i) w0 w ∧ (∀ g, lv.ownBlock = some g → lv0.ownBlock = some g ∨ w0.heap.size ≤ g) ∧
    (∀ g, xv.ownBlock = some g → xv0.ownBlock = some g ∨ w0.heap.size ≤ g)
theorem PlayAt.up {w0 : World} {p : Nat} {lv0 xv0 : Value} {ls : List Let} {sent : Int} {lv xv : Value} {w w' : World} (h : PlayAt w0 p lv0 xv0 ls sent lv xv w) (hu : Up w w') : PlayAt w0 p lv0 xv0 ls sent lv xv w' := by
  obtain ⟨ds, h1, h2, h3, h4, h5⟩ := h
  exact ⟨ds, h1.up hu, own_chg h2 hu (fun _ _ h => h), h3.then hu (fun _ h => h.elim), h4, h5⟩
theorem PlayAt.start {w : World} {p : Nat} {lv xv : Value} {ls : List Let} {sent : Int} {ds : List Value} (h : NetAt w p lv ds ls sent) (hx : XAt w 0 xv ls) : PlayAt w p lv xv ls sent lv xv w :=
  ⟨ds, h, hx, Chg.refl _ _, fun _ h => .inl h, fun _ h => .inl h⟩
/-- One call more. -/
def Stepped (w0 : World) (p : Nat) (lv0 xv0 : Value) (ls' : List Let) (sent' : Int) (e : Ending) (w' : World) : Prop :=
  ∃ B c lv', e = .returned (.tuple #[.slice B ls'.length c, .bool true]) ∧ PlayAt w0 p lv0 xv0 ls' sent' lv' (.slice B ls'.length c) w'
theorem PlayAt.step {w0 : World} {p : Nat} {lv0 xv0 : Value} {ls : List Let} {sent : Int} {lv xv : Value} {w : World} (h : PlayAt w0 p lv0 xv0 ls sent lv xv w) (hs0 : 0 ≤ sent) (hs1 : sent ≤ 1000000) (hn : ls.length < 1024) (hf : Few ls) (o : OpI) (d : Value) (hd : SlB w d o.dat) (hnx : o.dat.length ≤ 1000)
    (hdl : ∀ b, Value.blk d = some b → 0 < o.dat.length → b ≠ p ∧ lv.ownBlock ≠ some b) :
    Calls Try.prog 15 #[.pointer (some ⟨p, 0, none⟩), xv, .agg #[.int .i64 o.kind, .int .i64 o.at_, .int .i64 o.frm, .int .i64 o.to_, d]] w (Stepped w0 p lv0 xv0 (stepO ls o) (sentO sent o)) := by
  obtain ⟨ds, h1, h2, h3, h4, h5⟩ := h
  refine (step_any w p lv ds ls sent h1 hn (fun j hj => hf.at_ j hj) xv h2 o.kind o.at_ o.frm o.to_ d o.dat hd hnx hs0 hs1 hdl).mono ?_
  rintro e w' ⟨B, c, lv', ds', rfl, k1, k2, k3, k4, k5⟩
  refine ⟨B, c, lv', rfl, ds', k2, k1, h3.then k3 (fun i hi => ?_), fun g hg => ?_, fun g hg => ?_⟩
  · rcases hi with hi | hi | hi
    · exact .inl (.inl hi)
    · rcases h4 i hi with h | h
      · exact .inl (.inr (.inl h))
      · exact .inr h
    · rcases h5 i hi with h | h
      · exact .inl (.inr (.inr h))
      · exact .inr h
  · rcases k4 g hg with h | h
    · exact h4 g h
    · exact .inr (Nat.le_trans h3.size h)
  · rcases k5 g hg with h | h
    · exact h5 g h
    · exact .inr (Nat.le_trans h3.size h)
/-- The calls' cells, while only new memory is turned. -/
theorem OpsAt.row {w wr : World} {A : Option Addr} {n c : Nat} {os : List OpI} {ds : List Value} (h : OpsAt w (.slice A n c) os ds) (hc : Chg (fun i => w.heap.size ≤ i) w wr) (k : Nat) (hk : k < os.length) : ∃ b off, A = some ⟨b, off, none⟩ ∧
    wr.cell? ⟨b, off + k * 5, none⟩ = some (.int .i64 (os.getD k default).kind) ∧ wr.cell? ⟨b, off + k * 5 + 1, none⟩ = some (.int .i64 (os.getD k default).at_) ∧ wr.cell? ⟨b, off + k * 5 + 2, none⟩ = some (.int .i64 (os.getD k default).frm) ∧
    wr.cell? ⟨b, off + k * 5 + 3, none⟩ = some (.int .i64 (os.getD k default).to_) ∧ wr.cell? ⟨b, off + k * 5 + 4, none⟩ = some (ds.getD k undef) ∧ SlB wr (ds.getD k undef) (os.getD k default).dat ∧
    ∀ g, Value.blk (ds.getD k undef) = some g → 0 < (os.getD k default).dat.length → g < w.heap.size := by
  obtain ⟨b, off, c', he, _, _, hr⟩ := h.cells (by omega)
  injection he with e1 e2 e3
  obtain ⟨a0, a1, a2, a3, a4⟩ := hr k hk
  have hb := World.block_lt_of_cell? _ _ a0
  have hno : ¬ w.heap.size ≤ b := by simpa using hb
  exact ⟨b, off, e1, hc.cell a0 hno, hc.cell a1 hno, hc.cell a2 hno, hc.cell a3 hno, hc.cell a4 hno, (h.dat k hk).below hc, fun g hg h0 => (h.dat k hk).blk_lt h0 g hg⟩
theorem OpsAt.up' {w wr : World} {v : Value} {os : List OpI} {ds : List Value} (h : OpsAt w v os ds) (hu : Up w wr) : OpsAt wr v os ds :=
  ⟨h.len, Src.chg h.src hu (fun _ _ _ h => h) (by decide), fun j hj => Src.chg (h.dat j hj) hu (fun _ _ _ h => h) (by decide)⟩
theorem opC_one (o : OpI) (A : Option Addr) (n c : Nat) : ∀ u ∈ opC o (.slice A n c), u.oneCell' = true := by
  intro u hu
  simp [opC] at hu
  rcases hu with rfl | rfl | rfl | rfl | rfl <;> rfl
theorem OpsAt.one {w : World} {v : Value} {os : List OpI} {ds : List Value} (h : OpsAt w v os ds) : ∀ u ∈ rowO os ds, u.oneCell' = true := by
  intro u hu
  unfold rowO at hu
  obtain ⟨l, hl, hul⟩ := List.mem_flatten.1 hu
  obtain ⟨j, hj, rfl⟩ := List.mem_iff_getElem.1 hl
  have hl := h.len
  simp only [List.length_zipWith] at hj
  simp only [List.getElem_zipWith] at hul
  obtain ⟨A, c, he, _⟩ := (h.dat j (by omega)).shape
  rw [List.getD_eq_getElem?_getD, List.getElem?_eq_getElem (show j < ds.length by omega)] at he
  simp only [Option.getD_some] at he
  rw [he] at hul
  exact opC_one _ _ _ _ u hul
theorem info36z : (Try.prog.info? 36).map (fun i => (i.zero, i.size, i.bytes)) = some (some (.agg #[.int .i64 0, .int .i64 0, .int .i64 0, .int .i64 0, .slice none 0 0]), 5, 56) := by kernel_rfl
theorem OpsAt.app {w : World} {v1 v2 : Value} {os1 os2 : List OpI} {ds1 ds2 : List Value} (h1 : OpsAt w v1 os1 ds1) (h2 : OpsAt w v2 os2 ds2) (n1 : os1.length ≤ 1000) (n2 : os2.length ≤ 1000) :
    ∃ B1 c1 w1 B2 c2 w2, (Builtin.append_ #[33, 33] 33 #[.slice (some ⟨w.heap.size, 0, none⟩) 0 0, v1]).run Try.prog (w.alloc (.cells #[] 36)) = .ok (.slice B1 os1.length c1) w1 ∧
      (Builtin.append_ #[33, 33] 33 #[.slice B1 os1.length c1, v2]).run Try.prog w1 = .ok (.slice B2 (os1.length + os2.length) c2) w2 ∧ OpsAt w2 (.slice B2 (os1.length + os2.length) c2) (os1 ++ os2) (ds1 ++ ds2) ∧ Up w w2 := by
  obtain ⟨v', w1, r1, o1, g1, _, _⟩ := ap_run (P := Try.prog) (w.alloc (.cells #[] 36)) 33 33 w.heap.size 36 (.agg #[.int .i64 0, .int .i64 0, .int .i64 0, .int .i64 0, .slice none 0 0]) 5 56 Try.underlying33 info36z rfl (by decide) _ 0 [] (World.ownsRow_made w #[] 0 (Nat.le_refl _) (by omega) rfl) v1 os1.length (rowO os1 ds1)
    (Src.chg h1.src ((Chg.refl (fun _ => False) w).alloc _) (fun _ _ _ h => h) (by decide)) h1.one (by omega) (by omega) (by simp)
  rw [Nat.zero_add, List.nil_append] at o1
  obtain ⟨B1, c1, rfl⟩ := own_shape o1
  have hu1 : Up w w1 := ((Chg.refl (fun _ => False) w).alloc _).then (Chg.of_grownBy g1) (fun i hi => by simp [Value.ownBlock] at hi; exact .inr (by omega))
  obtain ⟨v', w2, r2, o2, g2, _, _⟩ := ap_run (P := Try.prog) w1 33 33 w.heap.size 36 (.agg #[.int .i64 0, .int .i64 0, .int .i64 0, .int .i64 0, .slice none 0 0]) 5 56 Try.underlying33 info36z rfl (by decide) _ os1.length _ o1 v2 os2.length (rowO os2 ds2)
    (Src.chg h2.src hu1 (fun _ _ _ h => h) (by decide)) h2.one (by omega) (by omega) hu1.size
  obtain ⟨B2, c2, rfl⟩ := own_shape o2
  have hu2 : Up w w2 := hu1.then (Chg.of_grownBy g2) (fun i hi => .inr (own_ge o1 i hi.symm))
  refine ⟨B1, c1, w1, B2, c2, w2, r1, r2, ⟨by simp [h1.len, h2.len], ?_, fun j hj => ?_⟩, hu2⟩
  · rw [rowO_app _ _ _ _ h1.len, List.length_append]
    rcases o2.2 with ⟨hv, h0⟩ | ⟨g, cap, cur, hv, _, _, q1, q2, _⟩
    · have e1 : os1 = [] := List.eq_nil_of_length_eq_zero (by omega)
      have e2 : os2 = [] := List.eq_nil_of_length_eq_zero (by omega)
      subst e1 e2
      have d1 : ds1 = [] := List.eq_nil_of_length_eq_zero h1.len
      have d2 : ds2 = [] := List.eq_nil_of_length_eq_zero h2.len
      subst d1 d2
      exact .inl ⟨hv, rfl, rfl⟩
    · have := o2.1
      rw [hv] at o2 ⊢
      exact .inr ⟨⟨g, 0, none⟩, cap, rfl, this, q1, by simpa [maxLen] using q2, fun j u hu => World.ownsRow.cells o2 rfl j u hu⟩
  · have hl1 := h1.len
    by_cases hj1 : j < os1.length
    · rw [show (ds1 ++ ds2).getD j undef = ds1.getD j undef by simp [List.getD_eq_getElem?_getD, List.getElem?_append_left (show j < ds1.length by omega)], show (os1 ++ os2).getD j default = os1.getD j default by simp [List.getD_eq_getElem?_getD, List.getElem?_append_left hj1]]
      exact Src.chg (h1.dat j hj1) hu2 (fun _ _ _ h => h) (by decide)
    · rw [List.length_append] at hj
      rw [show (ds1 ++ ds2).getD j undef = ds2.getD (j - os1.length) undef by simp [List.getD_eq_getElem?_getD, List.getElem?_append_right (show ds1.length ≤ j by omega), hl1], show (os1 ++ os2).getD j default = os2.getD (j - os1.length) default by simp [List.getD_eq_getElem?_getD, List.getElem?_append_right (show os1.length ≤ j by omega)]]
      exact Src.chg (h2.dat _ (by omega)) hu2 (fun _ _ _ h => h) (by decide)
/-- Another net stays while one goes on. -/
theorem PlayAt.net {w0 w : World} {p : Nat} {lv0 xv0 lv xv : Value} {ls ls0 ls1 : List Let} {sent s0 : Int} {ds0 : List Value} (h : PlayAt w0 p lv0 xv0 ls sent lv xv w) (n0 : NetAt w0 p lv0 ds0 ls0 s0) (x0 : XAt w0 0 xv0 ls1)
    {q : Nat} {lq : Value} {dq : List Value} {ms : List Let} {t : Int} (m : NetAt w0 q lq dq ms t) (hq : q ≠ p) (hl : ∀ k, lq.ownBlock = some k → lv0.ownBlock ≠ some k) : NetAt w q lq dq ms t := by
  obtain ⟨ds, _, _, hc, _, _⟩ := h
  refine m.apart hc (fun hs => ?_) (fun k hk hs => ?_) (fun j k hj hk hs => ?_)
  · rcases hs with hs | hs | hs
    · exact hq hs
    · obtain ⟨c, f, hh⟩ := own_type n0.row q hs
      rw [m.obj] at hh; cases hh
    · obtain ⟨c, f, hh⟩ := own_type x0 q hs
      rw [m.obj] at hh; cases hh
  · rcases hs with hs | hs | hs
    · subst hs
      obtain ⟨c, f, hh⟩ := own_type m.row k hk
      rw [n0.obj] at hh; cases hh
    · exact hl k hk hs
    · exact own_ne m.row x0 (by decide) k hk hs
  · rcases hs with hs | hs | hs
    · subst hs
      obtain ⟨c, f, hh⟩ := own_type (m.dat j hj) k hk
      rw [n0.obj] at hh; cases hh
    · exact own_ne (m.dat j hj) n0.row (by decide) k hk hs
    · exact own_ne (m.dat j hj) x0 (by decide) k hk hs
/-- Another list of letters stays while one goes on. -/
theorem PlayAt.ref {w0 w : World} {p : Nat} {lv0 xv0 lv xv : Value} {ls ls0 us : List Let} {sent s0 : Int} {ds0 : List Value} (h : PlayAt w0 p lv0 xv0 ls sent lv xv w) (n0 : NetAt w0 p lv0 ds0 ls0 s0)
    {b : Nat} {uv : Value} (u : XAt w0 b uv us) (hu : ∀ k, uv.ownBlock = some k → xv0.ownBlock ≠ some k) : XAt w b uv us := by
  obtain ⟨ds, _, _, hc, _, _⟩ := h
  refine own_chg u hc (fun k hk hs => ?_)
  rcases hs with hs | hs | hs
  · subst hs
    obtain ⟨c, f, hh⟩ := own_type u k hk
    rw [n0.obj] at hh; cases hh
  · exact own_ne u n0.row (by decide) k hk hs
  · exact hu k hk hs
theorem PlayAt.base {b : Nat} {w w0 w1 : World} {p : Nat} {lv0 xv0 lv xv : Value} {ls : List Let} {sent : Int} (h : PlayAt w0 p lv0 xv0 ls sent lv xv w1) (hc : Chg (fun i => b ≤ i) w w0) (hb : b ≤ w.heap.size) (hp : b ≤ p) (hl : ∀ g, lv0.ownBlock = some g → b ≤ g) (hx : ∀ g, xv0.ownBlock = some g → b ≤ g) :
    Chg (fun i => b ≤ i) w w1 ∧ (∀ g, lv.ownBlock = some g → b ≤ g) ∧ ∀ g, xv.ownBlock = some g → b ≤ g := by
  obtain ⟨ds, _, _, h3, h4, h5⟩ := h
  refine ⟨hc.then h3 (fun i hi => ?_), fun g hg => ?_, fun g hg => ?_⟩
  · rcases hi with hi | hi | hi
    · subst hi; exact .inl hp
    · exact .inl (hl i hi)
    · exact .inl (hx i hi)
  · rcases h4 g hg with h | h
    · exact hl g h
    · exact Nat.le_trans hb (Nat.le_trans hc.size h)
  · rcases h5 g hg with h | h
    · exact hx g h
    · exact Nat.le_trans hb (Nat.le_trans hc.size h)
theorem takeO_getD (os : List OpI) (k j : Nat) (h : j < (os.take k).length) : (os.take k).getD j default = os.getD j default := by
  rw [List.length_take] at h
  rw [List.getD_eq_getElem?_getD, List.getD_eq_getElem?_getD, List.getElem?_take, if_pos (by omega)]
/-- What stays small. -/
theorem play_ok {ls : List Let} {s : Int} {os : List OpI} (hl : ls.length ≤ 200) (hf : Few ls) (hs0 : 0 ≤ s) (hs1 : s ≤ 200) (ho : os.length ≤ 200) (hd : ∀ j, j < os.length → (os.getD j default).dat.length ≤ 1000) (k : Nat) :
    (playI ls (os.take k)).length < 1024 ∧ Few (playI ls (os.take k)) ∧ 0 ≤ sentI' s (os.take k) ∧ sentI' s (os.take k) ≤ 1000000 := by
  have h1 := playI_len ls (os.take k)
  have h2 := sentI_le s (os.take k)
  have h3 : (os.take k).length ≤ os.length := by rw [List.length_take]; omega
  refine ⟨by omega, playI_few hf _ (fun j hj => ?_), by omega, by omega⟩
  rw [takeO_getD os k j hj]
  exact hd j (by omega)
/-- One call more of many. -/
theorem PlayAt.next {w0 : World} {p : Nat} {lv0 xv0 : Value} {ls : List Let} {s : Int} {os : List OpI} {k : Nat} {lv xv : Value} {w : World} (h : PlayAt w0 p lv0 xv0 (playI ls (os.take k)) (sentI' s (os.take k)) lv xv w)
    (hl : ls.length ≤ 200) (hf : Few ls) (hs0 : 0 ≤ s) (hs1 : s ≤ 200) (ho : os.length ≤ 200) (hd : ∀ j, j < os.length → (os.getD j default).dat.length ≤ 1000) (hk : k < os.length) (o : OpI) (hoe : os.getD k default = o) (d : Value) (hsl : SlB w d o.dat)
    (hdl : ∀ b, Value.blk d = some b → 0 < o.dat.length → b ≠ p ∧ lv.ownBlock ≠ some b) :
    Calls Try.prog 15 #[.pointer (some ⟨p, 0, none⟩), xv, .agg #[.int .i64 o.kind, .int .i64 o.at_, .int .i64 o.frm, .int .i64 o.to_, d]] w (Stepped w0 p lv0 xv0 (playI ls (os.take (k + 1))) (sentI' s (os.take (k + 1)))) := by
  obtain ⟨b1, b2, b3, b4⟩ := play_ok hl hf hs0 hs1 ho hd k
  rw [playI_take ls os k hk, sentI_take s os k hk, hoe]
  exact h.step b3 b4 b1 b2 o d hsl (by have := hd k hk; rw [hoe] at this; exact this) hdl
end Go.Proofs.Ytofmblkmfbioiaa
