/-
  'region_mono' where the first operation, a move that others need not wait for, is taken first.
-/
import Derived.Test.YtkndnlhlglgmfaaMT
import Derived.Orders
namespace Go.Proofs.Ytkndnlhlglgmfaa.MT
def ordRm (l : List Oper) (n : Nat) : Bool := (List.range l.length).all fun i => match l[i]? with
  | none => true
  | some o => (o.after.all fun e => !Region.binds .any e || decide (e.on < i)) && (decide (i < n) || (List.range i).all fun j => j == 0 || reach l l.length i j)
theorem ordRm_at {l : List Oper} {n : Nat} (h : ordRm l n = true) {i : Nat} {o : Oper} (ho : l[i]? = some o) :
    (∀ e ∈ o.after, Region.binds .any e = true → e.on < i) ∧ (n ≤ i → ∀ j, j < i → j ≠ 0 → reach l l.length i j = true) := by
  unfold ordRm at h
  simp only [List.all_eq_true, List.mem_range] at h
  have h1 := h i (List.getElem?_eq_some_iff.1 ho).1
  rw [ho] at h1
  simp only [Bool.and_eq_true, Bool.or_eq_true, decide_eq_true_eq, List.all_eq_true, List.mem_range] at h1
  refine ⟨fun e he hb => ?_, fun hn j hj hj0 => ?_⟩
  · have h2 := Array.all_eq_true_iff_forall_mem.1 h1.1 e he
    simpa [hb] using h2
  · rcases h1.2 with h2 | h2
    · omega
    · rcases h2 j hj with h3 | h3
      · exact absurd (by simpa using h3) hj0
      · exact h3
theorem tail_anyRm {P : Program} {Q : Exit → Act → World → Prop} {l : List Oper} {n : Nat} (hO : ordRm l n = true) (hn0 : 0 < n) : ∀ (rest : List Oper) (k : Nat) (listed : Array Bool) (a : Act) (w : World) (fuel : Nat), (∀ j, rest[j]? = l[k + j]?) → listed.size = l.length → n ≤ k → k + rest.length = l.length →
    (∀ j, j < l.length → listed.getD j false = decide (j < k)) → rest.length ≤ fuel → wpList P l.toArray Q rest a w → wpAny P .any l.toArray Q fuel listed a w
  | [], k, listed, a, w, fuel, _, hs, _, hk, hl, _, h => by
    refine wpAny_done ?_ h fuel
    cases hr : Region.ready .any l.toArray listed with
    | nil => rfl
    | cons j js =>
      exfalso
      have hm : j ∈ Region.ready .any l.toArray listed := by rw [hr]; simp
      obtain ⟨hun, o, ho, _⟩ := mem_ready.1 hm
      rw [List.getElem?_toArray] at ho
      have hjl := (List.getElem?_eq_some_iff.1 ho).1
      have h1 := hl j hjl
      have hlt : j < listed.size := by rw [hs]; exact hjl
      have hjk : j < k := by simp at hk; omega
      simp [hlt] at hun h1
      rw [hun] at h1
      simp at h1
      omega
  | o :: rest, k, listed, a, w, 0, _, _, _, _, _, hf, _ => by simp at hf
  | o :: rest, k, listed, a, w, fuel + 1, hr, hs, hn, hk, hl, hf, h => by
    have ho : l[k]? = some o := by simpa using (hr 0).symm
    have hkl : k < l.length := (List.getElem?_eq_some_iff.1 ho).1
    have only : ∀ i ∈ Region.ready .any l.toArray listed, i = k := fun i hi => by
      obtain ⟨hun, oi, hoi, haf⟩ := mem_ready.1 hi
      rw [List.getElem?_toArray] at hoi
      have hil := (List.getElem?_eq_some_iff.1 hoi).1
      have hlt : i < listed.size := by rw [hs]; exact hil
      have h1 := hl i hil
      have hik : ¬ i < k := by
        intro hik
        simp [hlt] at hun h1
        rw [hun] at h1
        simp at h1
        omega
      rcases Nat.lt_or_eq_of_le (Nat.le_of_not_lt hik) with hlt' | he
      · exfalso
        have h1 := reach_in (S := fun j => j < k) (fun p op hp hop e he hb => Nat.lt_trans ((ordRm_at hO hop).1 e he hb) hp) l.length hoi (fun e he hb => by
          have h2 := haf e he hb
          have hel := (ordRm_at hO hoi).1 e he hb
          rw [hl e.on (by omega)] at h2
          simpa using h2) ((ordRm_at hO hoi).2 (by omega) k hlt' (by omega))
        exact absurd h1 (by simp)
      · exact he.symm
    have isr : k ∈ Region.ready .any l.toArray listed := mem_ready.2 ⟨by
      have h1 := hl k hkl
      have hlt : k < listed.size := by rw [hs]; exact hkl
      simp [hlt] at h1 ⊢
      exact h1, o, by rw [List.getElem?_toArray]; exact ho, fun e he hb => by
        have h2 := (ordRm_at hO ho).1 e he hb
        rw [hl e.on (by omega)]
        simpa using h2⟩
    refine ⟨fun h0 => (by rw [h0] at isr; cases isr), fun i hi => ?_⟩
    rw [only i hi]
    have hnext : ∀ a' w', wpList P l.toArray Q rest a' w' → wpAny P .any l.toArray Q fuel (listed.setIfInBounds k true) a' w' := fun a' w' h' =>
      tail_anyRm hO hn0 rest (k + 1) _ a' w' fuel (fun j => by have := hr (j + 1); simpa [Nat.add_assoc, Nat.add_comm 1 j] using this) (by simpa using hs) (by omega) (by simp at hk; omega) (fun j hj => by
        by_cases hjk : j = k
        · subst hjk
          have : j < listed.size := by omega
          simp [this]
        · rw [getD_set_ne false (Ne.symm hjk), hl j hj]
          rw [Bool.eq_iff_iff]
          simp
          omega) (by simpa using hf) h'
    unfold wpOp
    simp only [List.getElem?_toArray, ho]
    change (if Region.wanted o (yielded l.toArray a.tmps) = true then Oper.wp P o a w (wpList P l.toArray Q rest) Q ∨ (o.asks P a w ∧ LetsOut Q) else wpList P l.toArray Q rest (a.put o.dst undef) w) at h
    split
    · rename_i hw
      rw [if_pos hw] at h
      exact h.imp (Oper.wp_mono hnext) id
    · rename_i hw
      rw [if_neg hw] at h
      exact hnext _ _ h
structure InvM (dp : Nat → Bool) (D : Value → Value → Prop) (l : List Oper) (n : Nat) (a0 : Act) (w0 : World) (ext : World → World → Prop) (rs : List Fact) (listed : Array Bool) (a : Act) (w : World) : Prop where
  fst : listed.getD 0 false = true
  size : listed.size = l.length
  ext : ext w0 w
  low : ∀ j, n ≤ j → listed.getD j false = false
  down : ∀ p op, listed.getD p false = true → l[p]? = some op → ∀ e ∈ op.after, Region.binds .any e = true → listed.getD e.on false = true
  ex : ∃ vs, Slots l a0 a listed vs ∧ (∀ (j : Nat) (r : Fact), rs[j]? = some r → listed.getD j false = true → r (vs j) w) ∧ ∀ i j, dp i = true → dp j = true → i ≠ j → listed.getD i false = true → listed.getD j false = true → D (vs i) (vs j)
theorem region_mono1 {P : Program} {id : Nat} {Q : Exit → Act → World → Prop} {a0 : Act} {w0 : World} {l : List Oper} (dp : Nat → Bool) (D : Value → Value → Prop) (ext : World → World → Prop) (rs : List Fact) (hm : P.follows .mixedOrders = true) (hB : (monoB l a0.tmps.size && ordRm l rs.length) = true)
    (hn1 : 0 < rs.length) (o0 : Oper) (v0 : Value) (hl0 : l[0]? = some o0) (hfree : Region.free .any l.toArray (Array.replicate l.toArray.size false) 0 = true) (hready : (Region.ready .any l.toArray (Array.replicate l.toArray.size false)).contains 0 = true)
    (hQ : ∀ c a w, Q (.panic c) (a.put o0.dst v0) w → Q (.panic c) a w) (hy : Yields P l.toArray o0 v0 a0) (hr0 : ∀ r, rs[0]? = some r → r v0 w0.drew)
    (href : ∀ w, ext w w) (htr : ∀ a b c, ext a b → ext b c → ext a c) (hl : rs.length ≤ l.length) (hst : ∀ r ∈ rs, ∀ v w w', ext w0.drew w → ext w w' → r v w → r v w')
    (hobs : Obs P l a0 w0.drew ext rs l rs)
    (hdp : ∀ i o, dp i = true → l[i]? = some o → o.guard = none) (hdn : ∀ i, dp i = true → i < rs.length)
    (hD : ∀ i o r, dp i = true → l[i]? = some o → rs[i]? = some r → ∀ (ρ : Operand → Value) (w : World), ext w0.drew w → Gives P o ρ w fun v w' => ext w w' ∧ r v w' ∧ ∀ j rj u, dp j = true → j ≠ i → rs[j]? = some rj → rj u w → D v u ∧ D u v)
    (fin : ∀ (vs : Nat → Value) (w : World), ext w0.drew w → (∀ (k : Nat) (r : Fact), rs[k]? = some r → r (vs k) w) → (∀ i j, dp i = true → dp j = true → i ≠ j → D (vs i) (vs j)) → wpList P l.toArray Q (restL l rs) (putsL l rs 0 vs a0) w) :
    (Code.region id l.toArray true).wp P Q a0 w0 := by
  simp only [Bool.and_eq_true] at hB
  obtain ⟨hB, hO⟩ := hB
  obtain ⟨n, hn⟩ : ∃ n, rs.length = n := ⟨_, rfl⟩
  rw [hn] at hO
  refine wp_region_any hm ?_
  have full : ∀ (fuel : Nat) (listed : Array Bool) (a : Act) (w : World), InvM dp D l n a0 w0.drew ext rs listed a w → (∀ j, j < n → listed.getD j false = true) → l.length - n ≤ fuel → wpAny P .any l.toArray Q fuel listed a w := fun fuel listed a w hi hall hf => by
    obtain ⟨vs, hsl, hrs, hdd⟩ := hi.ex
    have h0 : Slots l a0 a0 (Array.replicate l.length false) vs := ⟨rfl, rfl, fun t _ => by
      cases writer l t with
      | none => rfl
      | some j =>
        have : (Array.replicate l.length false).getD j false = false := by
          by_cases hj : j < l.length <;> simp [hj]
        simp only [this]; rfl⟩
    have hpat : ∀ j, listed.getD j false = decide (j < n) := fun j => by
      by_cases hj : j < n
      · rw [hall j hj]; simp [hj]
      · rw [hi.low j (by omega)]; simp [hj]
    obtain ⟨listed', h1, h2⟩ := putsL_slots vs l a0 hB l rs 0 a0 _ (fun j => by simp) (by simp) hl (by simp) h0
    rw [hsl.eq h2 (fun j hj => by
      rw [h1 j, hpat j]
      have : (Array.replicate l.length false).getD j false = false := by simp [hj]
      rw [this, hn]
      simp)]
    have hfin := fin vs w hi.ext (fun k r hk => hrs k r hk (hall k (by have := (List.getElem?_eq_some_iff.1 hk).1; omega))) (fun i j h1 h2 h3 => hdd i j h1 h2 h3 (hall i (by have := hdn i h1; omega)) (hall j (by have := hdn j h2; omega)))
    rw [restL_eq l rs hl, hn] at hfin
    exact tail_anyRm hO (by omega) (l.drop n) n listed _ w fuel (fun j => by simp) hi.size (Nat.le_refl _) (by simp; omega) (fun j _ => hpat j) (by simpa using hf) hfin
  have step : ∀ (listed : Array Bool) (a : Act) (w : World) (K : Act → World → Prop), InvM dp D l n a0 w0.drew ext rs listed a w → ∀ i ∈ Region.ready .any l.toArray listed, i < n → (∀ a' w', InvM dp D l n a0 w0.drew ext rs (listed.setIfInBounds i true) a' w' → K a' w') → wpOp P l.toArray Q i K a w := fun listed a w K hi i hri hin hK => by
    obtain ⟨vs, hsl, hrs, hdd⟩ := hi.ex
    obtain ⟨hun, o, ho, haf⟩ := mem_ready.1 hri
    rw [List.getElem?_toArray] at ho
    have hil : i < l.length := (List.getElem?_eq_some_iff.1 ho).1
    have his : i < listed.size := by rw [hi.size]; exact hil
    obtain ⟨r, hr⟩ : ∃ r, rs[i]? = some r := ⟨rs[i]'(by omega), List.getElem?_eq_getElem _⟩
    have hslot : ∀ o' ∈ l, ∀ d, o'.dst = some d → d < a.tmps.size := fun o' ho' d hd => by
      obtain ⟨j, hj⟩ := List.mem_iff_getElem?.1 ho'
      rw [hsl.size]
      exact ((monoB_at hB hj).1 d hd).2
    have next : ∀ v w', ext w w' → r v w' → (dp i = true → ∀ j rj u, dp j = true → j ≠ i → rs[j]? = some rj → rj u w → D v u ∧ D u v) → InvM dp D l n a0 w0.drew ext rs (listed.setIfInBounds i true) (a.put o.dst v) w' := fun v w' he hv hnew => by
      refine ⟨(by
        by_cases h0 : i = 0
        · subst h0; simp [his]
        · rw [getD_set_ne false h0]; exact hi.fst), by simpa using hi.size, htr _ _ _ hi.ext he, fun j hj => by rw [getD_set_ne false (by omega)]; exact hi.low j hj, fun p op hlp hop e he hb => ?_, updv vs i v, hsl.put hB ho his v, fun j rj hj hlj => ?_, fun p q hp hq hpq hlp hlq => ?_⟩
      · have grow : ∀ q, listed.getD q false = true → (listed.setIfInBounds i true).getD q false = true := fun q hq => by
          by_cases hqi : q = i
          · subst hqi; simp [his]
          · rw [getD_set_ne false (Ne.symm hqi)]; exact hq
        by_cases hpi : p = i
        · subst hpi
          rw [ho] at hop
          cases hop
          exact grow _ (haf e he hb)
        · rw [getD_set_ne false (Ne.symm hpi)] at hlp
          exact grow _ (hi.down p op hlp hop e he hb)
      rotate_left
      · have old : ∀ j, dp j = true → j ≠ i → (listed.setIfInBounds i true).getD j false = true → ∃ rj, rs[j]? = some rj ∧ rj (vs j) w := fun j hj hji hlj => by
          rw [getD_set_ne false (Ne.symm hji)] at hlj
          have hjn := hdn j hj
          exact ⟨_, List.getElem?_eq_getElem hjn, hrs j _ (List.getElem?_eq_getElem hjn) hlj⟩
        by_cases hpi : p = i
        · subst hpi
          have hqp : q ≠ p := Ne.symm hpq
          obtain ⟨rj, h1, h2⟩ := old q hq hqp hlq
          simpa [updv, hqp] using (hnew hp q rj (vs q) hq hqp h1 h2).1
        · by_cases hqi : q = i
          · subst hqi
            obtain ⟨rj, h1, h2⟩ := old p hp hpi hlp
            simpa [updv, hpi] using (hnew hq p rj (vs p) hp hpi h1 h2).2
          · rw [getD_set_ne false (Ne.symm hpi)] at hlp
            rw [getD_set_ne false (Ne.symm hqi)] at hlq
            simpa [updv, hpi, hqi] using hdd p q hp hq hpq hlp hlq
      by_cases hji : j = i
      · subst hji
        rw [hr] at hj
        cases hj
        simpa [updv] using hv
      · rw [getD_set_ne false (Ne.symm hji)] at hlj
        have := hst rj (List.mem_of_getElem? hj) (vs j) w w' hi.ext he (hrs j rj hj hlj)
        simpa [updv, hji] using this
    have hob := obs_get hobs ho hr a.eval w hi.ext (fun t ht => by
      by_cases hlt : t < a0.tmps.size
      · have := hsl.slot t hlt
        unfold lateB at ht
        cases hwr : writer l t with
        | none =>
          rw [hwr] at this
          simp only [] at this
          simp only [Act.eval]
          simp only [Array.getD_eq_getD_getElem?, this]
        | some j =>
          rw [hwr] at this ht
          have hj : n ≤ j := by rw [← hn]; exact of_decide_eq_true ht
          simp only [hi.low j hj, Bool.false_eq_true, if_false] at this
          simp only [Act.eval]
          simp only [Array.getD_eq_getD_getElem?, this]
      · simp only [Act.eval]
        rw [Array.getD_eq_getD_getElem?, Array.getD_eq_getD_getElem?, Array.getElem?_eq_none (by rw [hsl.size]; exact Nat.le_of_not_lt hlt), Array.getElem?_eq_none (Nat.le_of_not_lt hlt)]) (fun _ => rfl) (fun _ => rfl) (fun _ => rfl)
      (fun e he hb oj d rj hoj hd hrj => by
        have hlj := haf e he hb
        have hdw := (monoB_at hB hoj).1 d hd
        have := hsl.slot d hdw.2
        rw [hdw.1] at this
        simp only [hlj, if_true] at this
        have hv : a.eval (.tmp d) = vs e.on := by simp only [Act.eval, Array.getD_eq_getD_getElem?, this, Option.getD_some]
        rw [hv]
        exact hrs e.on rj hrj hlj)
    unfold wpOp
    simp only [List.getElem?_toArray, ho]
    rw [wanted_eq o hslot]
    cases hdi : dp i with
    | true =>
      have hgd := hdp i o hdi ho
      have hwt : wantedBy l a.eval o = true := by unfold wantedBy; rw [hgd]
      rw [hwt]
      simp only [if_true]
      exact .inl (wp_of_gives (hD i o r hdi ho hr a.eval w hi.ext) fun v w' ⟨he, hv, hne⟩ => hK _ _ (next v w' he hv (fun _ => hne)))
    | false =>
    cases hw : wantedBy l a.eval o with
    | true =>
      simp only [if_true]
      exact .inl (wp_of_gives (hob.1 hw) fun v w' ⟨he, hv⟩ => hK _ _ (next v w' he hv (fun h => by rw [hdi] at h; cases h)))
    | false =>
      simp only [Bool.false_eq_true, if_false]
      exact hK _ _ (next undef w (href w) (hob.2 hw) (fun h => by rw [hdi] at h; cases h))
  have all : ∀ (fuel : Nat) (listed : Array Bool) (a : Act) (w : World), InvM dp D l n a0 w0.drew ext rs listed a w → (List.range n).countP (fun j => !listed.getD j false) + (l.length - n) ≤ fuel → wpAny P .any l.toArray Q fuel listed a w := by
    intro fuel
    induction fuel with
    | zero =>
      intro listed a w hi hc
      exact full 0 listed a w hi (fun j hj => by
        have := List.countP_eq_zero.1 (show (List.range n).countP (fun j => !listed.getD j false) = 0 by omega) j (List.mem_range.2 hj)
        simpa using this) (by omega)
    | succ fuel ih =>
      intro listed a w hi hc
      by_cases hall : ∀ j, j < n → listed.getD j false = true
      · exact full _ listed a w hi hall (by omega)
      · have low : ∀ i ∈ Region.ready .any l.toArray listed, i < n := fun i hri => by
          obtain ⟨hun, o, ho, haf⟩ := mem_ready.1 hri
          rw [List.getElem?_toArray] at ho
          refine Nat.lt_of_not_le fun hni => hall fun j hj => ?_
          by_cases hj0 : j = 0
          · subst hj0; exact hi.fst
          · exact reach_in (S := fun j => listed.getD j false = true) hi.down l.length ho haf ((ordRm_at hO ho).2 hni j (by omega) hj0)
        refine ⟨fun h0 => ?_, fun i hri => step listed a w _ hi i hri (low i hri) fun a' w' hi' => ih _ a' w' hi' ?_⟩
        · exfalso
          refine hall ?_
          have : ∀ m j, j < m → j < n → listed.getD j false = true := by
            intro m
            induction m with
            | zero => intro j hj; omega
            | succ m ihm =>
              intro j hj hjn
              cases hu : listed.getD j false with
              | true => rfl
              | false =>
                exfalso
                have hjl : j < l.length := by omega
                have hm : j ∈ Region.ready .any l.toArray listed := mem_ready.2 ⟨by
                  have hlt : j < listed.size := by rw [hi.size]; exact hjl
                  simpa [hlt] using hu, l[j], by simp [hjl], fun e he hb => by
                    have := (ordRm_at hO (List.getElem?_eq_getElem hjl)).1 e he hb
                    exact ihm e.on (by omega) (by omega)⟩
                rw [h0] at hm
                cases hm
          exact fun j hj => this (j + 1) j (by omega) hj
        · obtain ⟨hun, o, ho, _⟩ := mem_ready.1 hri
          rw [List.getElem?_toArray] at ho
          have hil : i < l.length := (List.getElem?_eq_some_iff.1 ho).1
          have his : i < listed.size := by rw [hi.size]; exact hil
          have hlt : (List.range n).countP (fun j => !(listed.setIfInBounds i true).getD j false) < (List.range n).countP (fun j => !listed.getD j false) := by
            refine countP_less (x := i) (fun j _ hj => ?_) (List.mem_range.2 (low i hri)) (by simpa [his] using hun) (by simp [his])
            by_cases hji : j = i
            · subst hji; simp [his] at hj
            · rwa [getD_set_ne false (Ne.symm hji)] at hj
          omega
  have hll : 0 < l.length := (List.getElem?_eq_some_iff.1 hl0).1
  have hrep : ∀ j, (Array.replicate l.toArray.size false).getD j false = false := fun j => by
    by_cases hj : j < l.length <;> simp [hj]
  have hset : ∀ j, ((Array.replicate l.toArray.size false).setIfInBounds 0 true).getD j false = true → j = 0 := fun j hj => by
    by_cases h0 : j = 0
    · exact h0
    · rw [getD_set_ne false (Ne.symm h0), hrep] at hj; cases hj
  have hs0 : Slots l a0 a0 (Array.replicate l.toArray.size false) (fun _ => undef) := ⟨rfl, rfl, fun t _ => by
    cases writer l t with
    | none => rfl
    | some j => simp only [hrep]; rfl⟩
  suffices h : ∀ F, F = l.toArray.size → wpAny P .any l.toArray Q F (Array.replicate l.toArray.size false) a0 w0.drew from h _ rfl
  intro F hF
  have hF2 : F = l.length := by simpa using hF
  obtain ⟨f, rfl⟩ : ∃ f, F = f + 1 := ⟨F - 1, by omega⟩
  refine wpAny_take (i := 0) (oi := o0) (by rw [List.getElem?_toArray]; exact hl0) (monoB_sel hB) hfree hready hQ hy ?_
  have hlt : (List.range n).countP (fun j => !((Array.replicate l.toArray.size false).setIfInBounds 0 true).getD j false) < (List.range n).countP (fun j => !(Array.replicate l.toArray.size false).getD j false) := by
    refine countP_less (x := 0) (fun j _ _ => by rw [hrep]; rfl) (List.mem_range.2 (by omega)) (by rw [hrep]; rfl) (by simp [hll])
  have hle : (List.range n).countP (fun j => !(Array.replicate l.toArray.size false).getD j false) ≤ n := Nat.le_trans List.countP_le_length (by simp)
  refine all f _ _ _ ⟨by simp [hll], by simp, href _, fun j hj => ?_, fun p op hp hop e he hb => ?_, updv (fun _ => undef) 0 v0, hs0.put hB hl0 (by simpa using hll) v0, fun j r hj hlj => ?_, fun i j h1 h2 h3 h4 h5 => ?_⟩ (by omega)
  · cases hc : ((Array.replicate l.toArray.size false).setIfInBounds 0 true).getD j false with
    | false => rfl
    | true => have := hset j hc; omega
  · have hp0 := hset p hp
    subst hp0
    rw [hl0] at hop
    cases hop
    have := (ordRm_at hO hl0).1 e he hb
    omega
  · have hj0 := hset j hlj
    subst hj0
    simpa [updv] using hr0 r hj
  · exact absurd ((hset i h4).trans (hset j h5).symm) h3
theorem region_monoF {P : Program} {id : Nat} {Q : Exit → Act → World → Prop} {a0 : Act} {w0 : World} {l : List Oper} (ext : World → World → Prop) (rs : List Fact) (hm : P.follows .mixedOrders = true) (hB : (monoB l a0.tmps.size && ordRm l rs.length) = true)
    (hn1 : 0 < rs.length) (o0 : Oper) (v0 : Value) (hl0 : l[0]? = some o0) (hfree : Region.free .any l.toArray (Array.replicate l.toArray.size false) 0 = true) (hready : (Region.ready .any l.toArray (Array.replicate l.toArray.size false)).contains 0 = true)
    (hQ : ∀ c a w, Q (.panic c) (a.put o0.dst v0) w → Q (.panic c) a w) (hy : Yields P l.toArray o0 v0 a0) (hr0 : ∀ r, rs[0]? = some r → r v0 w0.drew)
    (href : ∀ w, ext w w) (htr : ∀ a b c, ext a b → ext b c → ext a c) (hl : rs.length ≤ l.length) (hst : ∀ r ∈ rs, ∀ v w w', ext w0.drew w → ext w w' → r v w → r v w')
    (hobs : Obs P l a0 w0.drew ext rs l rs) (fin : ∀ (vs : Nat → Value) (w : World), ext w0.drew w → (∀ (k : Nat) (r : Fact), rs[k]? = some r → r (vs k) w) → wpList P l.toArray Q (restL l rs) (putsL l rs 0 vs a0) w) :
    (Code.region id l.toArray true).wp P Q a0 w0 :=
  region_mono1 (fun _ => false) (fun _ _ => True) ext rs hm hB hn1 o0 v0 hl0 hfree hready hQ hy hr0 href htr hl hst hobs (fun _ _ h => by cases h) (fun _ h => by cases h) (fun _ _ _ h => by cases h) (fun vs w h1 h2 _ => fin vs w h1 h2)
end Go.Proofs.Ytkndnlhlglgmfaa.MT
