/-
  A region that draws its order, by an invariant over what has come up: each operation, once those that it waits for have come up, yields a value with a property that nothing undoes. No program is named.
-/
import Derived.Orders
namespace Go.Proofs.Ytggphjmlnbkngaa
open Go
set_option linter.unusedVariables false
set_option linter.unusedSimpArgs false
section
variable {P : Program} {ops : Array Oper} {Q : Exit → Act → World → Prop} {md : Region.Mode}
theorem count_set {l : Array Bool} {i : Nat} (h : l.getD i true = false) : (l.setIfInBounds i true).toList.count false + 1 = l.toList.count false := by
  have hi : i < l.size := by
    rcases Nat.lt_or_ge i l.size with h' | h'
    · exact h'
    · simp [Array.getElem?_eq_none h'] at h
  have h2 : l.toList[i]'(by simpa using hi) = false := by simpa [hi] using h
  rw [Array.toList_setIfInBounds, List.count_set (by simpa using hi), h2]
  have : 0 < l.toList.count false := List.count_pos_iff.2 (h2 ▸ List.getElem_mem _)
  simp only [show (false == false) = true from rfl, show (true == false) = false from rfl, if_true, Bool.false_eq_true, if_false]
  omega
/-- An invariant over what has come up serves every order. -/
theorem wpAny_inv (I : Array Bool → Act → World → Prop)
    (hdone : ∀ l a w, I l a w → Region.ready md ops l = [] → Q .normal a w)
    (hstep : ∀ l a w i, I l a w → i ∈ Region.ready md ops l → wpOp P ops Q i (fun a' w' => I (l.setIfInBounds i true) a' w') a w) :
    ∀ (fuel : Nat) (l : Array Bool) (a : Act) (w : World), l.toList.count false ≤ fuel → I l a w → wpAny P md ops Q fuel l a w
  | 0, l, a, w, hc, h => by
    have h0 : Region.ready md ops l = [] := by
      cases hr : Region.ready md ops l with
      | nil => rfl
      | cons i rest =>
        have hi : i ∈ Region.ready md ops l := by rw [hr]; exact List.mem_cons_self
        have := count_set (mem_ready.1 hi).1
        omega
    exact ⟨h0, hdone _ _ _ h h0⟩
  | fuel + 1, l, a, w, hc, h => ⟨fun h0 => hdone _ _ _ h h0, fun i hi => wpOp_mono (fun a' w' h' => wpAny_inv I hdone hstep fuel _ a' w' (by have := count_set (mem_ready.1 hi).1; omega) h') (hstep l a w i h hi)⟩
/-- What operation number 'i' has left. -/
def valAt (ops : Array Oper) (a : Act) (i : Nat) : Value := match (ops[i]?).bind (·.dst) with | some d => a.tmps.getD d undef | none => undef
/-- Each operation leaves its value in a temporary of its own; each waits only for such that stand ahead of it. -/
def tidyB (md : Region.Mode) (ops : Array Oper) (n : Nat) : Bool :=
  (List.range ops.size).all fun i => match ops[i]? with
    | none => true
    | some o => o.guard.isNone && (o.after.all fun e => !Region.binds md e || decide (e.on < i)) && (match o.dst with | none => true | some d => decide (d < n)) &&
      (List.range ops.size).all fun j => i == j || match ops[j]? with
        | none => true
        | some o' => o.dst.isNone || o.dst != o'.dst
theorem tidy_spec {n : Nat} (h : tidyB md ops n = true) {i : Nat} {o : Oper} (hi : ops[i]? = some o) :
    o.guard = none ∧ (∀ e ∈ o.after, Region.binds md e = true → e.on < i) ∧ (∀ d, o.dst = some d → d < n) ∧ ∀ j o', i ≠ j → ops[j]? = some o' → ∀ d, o.dst = some d → o'.dst ≠ some d := by
  have hlt : i < ops.size := (Array.getElem?_eq_some_iff.1 hi).1
  unfold tidyB at h
  have h1 := List.all_eq_true.1 h i (List.mem_range.2 hlt)
  simp only [hi, Bool.and_eq_true] at h1
  obtain ⟨⟨⟨h2, h3⟩, h4⟩, h5⟩ := h1
  refine ⟨by simpa using h2, ?_, ?_, ?_⟩
  · intro e he hb
    have := (Array.all_eq_true_iff_forall_mem.1 h3) e he
    simpa [hb] using this
  · intro d hd
    rw [hd] at h4
    simpa using h4
  · intro j o' hij hj d hd e
    have hjlt : j < ops.size := (Array.getElem?_eq_some_iff.1 hj).1
    have := List.all_eq_true.1 h5 j (List.mem_range.2 hjlt)
    simp only [hj, hd, e] at this
    simp [hij] at this
/-- Where the walk stands once these have come up. -/
structure Sit (ops : Array Oper) (Φ : Nat → Value → World → Prop) (F : Act → Prop) (R : World → Prop) (l : Array Bool) (a : Act) (w : World) : Prop where
  size : l.size = ops.size
  fr : F a
  wd : R w
  ph : ∀ i, l.getD i false = true → Φ i (valAt ops a i) w
theorem valAt_put {n : Nat} (h : tidyB md ops n = true) {i j : Nat} {o : Oper} (hi : ops[i]? = some o) (hij : j ≠ i) (a : Act) (v : Value) : valAt ops (a.put o.dst v) j = valAt ops a j := by
  unfold valAt
  cases hj : ops[j]? with
  | none => simp
  | some oj =>
    simp only [Option.bind_some]
    cases hd : oj.dst with
    | none => rfl
    | some d =>
      simp only [Act.put]
      cases ho : o.dst with
      | none => rfl
      | some d' =>
        have := (tidy_spec h hi).2.2.2 j oj (Ne.symm hij) hj d' ho
        have hne : d' ≠ d := fun e => this (by rw [hd, e])
        simp [Array.getElem?_setIfInBounds, hne]
theorem valAt_own {n : Nat} (h : tidyB md ops n = true) {i : Nat} {o : Oper} (hi : ops[i]? = some o) (a : Act) (hs : a.tmps.size = n) (v : Value) (hv : o.dst = none → v = undef) : valAt ops (a.put o.dst v) i = v := by
  unfold valAt
  simp only [hi, Option.bind_some]
  cases hd : o.dst with
  | none => exact (hv hd).symm
  | some d =>
    have := (tidy_spec h hi).2.2.1 d hd
    simp [Act.put, Array.getElem?_setIfInBounds, hs, this]
/-- THE LAW. -/
theorem wp_region_sits {id : Nat} {a₀ : Act} {w₀ : World} {n : Nat} (hm : P.follows .mixedOrders = true) (Φ : Nat → Value → World → Prop) (F : Act → Prop) (R : World → Prop) (Rel : World → World → Prop)
    (ht : tidyB .any ops n = true) (hF : ∀ (a : Act) (i : Nat) (o : Oper) (v : Value), F a → ops[i]? = some o → F (a.put o.dst v)) (hsz : ∀ a, F a → a.tmps.size = n)
    (hst : ∀ i v w w', Rel w w' → Φ i v w → Φ i v w')
    (hrun : ∀ (i : Nat) (o : Oper), ops[i]? = some o → ∀ a w, F a → R w → (∀ e ∈ o.after, Region.binds .any e = true → Φ e.on (valAt ops a e.on) w) →
      o.wp P a w (fun a' w' => ∃ v, a' = a.put o.dst v ∧ (o.dst = none → v = undef) ∧ Rel w w' ∧ R w' ∧ Φ i v w') Q)
    (hdone : ∀ a w, F a → R w → (∀ i, i < ops.size → Φ i (valAt ops a i) w) → Q .normal a w)
    (h1 : F a₀) (h2 : R { w₀ with drawn := w₀.drawn + 1 }) : (Code.region id ops true).wp P Q a₀ w₀ := by
  refine wp_region_any hm (wpAny_inv (Sit ops Φ F R) ?_ ?_ _ _ _ _ ?_ ⟨by simp, h1, h2, ?_⟩)
  · intro l a w hI hr
    refine hdone a w hI.fr hI.wd ?_
    have hall : ∀ k i, i < k → i < ops.size → l.getD i false = true := by
      intro k
      induction k with
      | zero => intro i hi; omega
      | succ k ih =>
        intro i hi hlt
        by_cases hl : l.getD i false = true
        · exact hl
        · exfalso
          have hin : i ∈ Region.ready .any ops l := by
            refine mem_ready.2 ⟨?_, ops[i], by simp [hlt], ?_⟩
            · have : i < l.size := by rw [hI.size]; exact hlt
              simp [this] at hl ⊢
              exact hl
            · intro e he hb
              have := (tidy_spec ht (show ops[i]? = some ops[i] by simp [hlt])).2.1 e he hb
              exact ih _ (by omega) (by omega)
          rw [hr] at hin
          cases hin
    exact fun i hi => hI.ph i (hall (i + 1) i (by omega) hi)
  · intro l a w i hI hi
    obtain ⟨hun, o, ho, hdeps⟩ := mem_ready.1 hi
    unfold wpOp
    rw [ho]
    have hw : Region.wanted o (yielded ops a.tmps) = true := by
      unfold Region.wanted
      rw [(tidy_spec ht ho).1]
    simp only [hw, if_true]
    left
    refine Oper.wp_mono ?_ (hrun i o ho a w hI.fr hI.wd fun e he hb => hI.ph _ (hdeps e he hb))
    rintro a' w' ⟨v, rfl, hv, hrel, hR, hΦ⟩
    refine ⟨by simp [hI.size], hF _ _ _ _ hI.fr ho, hR, fun j hj => ?_⟩
    by_cases hji : j = i
    · subst hji
      rw [valAt_own ht ho a (hsz a hI.fr) v hv]
      exact hΦ
    · rw [valAt_put ht ho hji]
      refine hst _ _ _ _ hrel (hI.ph j ?_)
      simpa [Array.getElem?_setIfInBounds, Ne.symm hji] using hj
  · simp
  · intro i hi
    exfalso
    rw [Array.getD_eq_getD_getElem?, Array.getElem?_replicate] at hi
    split at hi <;> simp at hi
/-- The slots that the region leaves alone. -/
def Kept (n : Nat) (keep : List (Nat × Value)) (a : Act) : Prop := a.defers = [] ∧ a.tmps.size = n ∧ ∀ p ∈ keep, a.tmps.getD p.1 undef = p.2
def keptB (ops : Array Oper) (keep : List Nat) : Bool := ops.toList.all fun o => match o.dst with | none => true | some d => !keep.contains d
theorem kept_put {n : Nat} {keep : List (Nat × Value)} (h : keptB ops (keep.map (·.1)) = true) {a : Act} {i : Nat} {o : Oper} {v : Value} (hk : Kept n keep a) (hi : ops[i]? = some o) : Kept n keep (a.put o.dst v) := by
  obtain ⟨h1, h2, h3⟩ := hk
  have hm : o ∈ ops.toList := by
    obtain ⟨hlt, he⟩ := Array.getElem?_eq_some_iff.1 hi
    rw [← he]
    simp
  have h4 := List.all_eq_true.1 h o hm
  cases hd : o.dst with
  | none => exact ⟨h1, h2, h3⟩
  | some d =>
    rw [hd] at h4
    refine ⟨h1, by simp [Act.put, h2], fun p hp => ?_⟩
    have hne : d ≠ p.1 := fun e => by
      have : d ∈ keep.map (·.1) := by rw [e]; exact List.mem_map_of_mem hp
      simp [this] at h4
    have := h3 p hp
    simpa [Act.put, Array.getElem?_setIfInBounds, hne] using this
/-- THE LAW, over slots that are left alone. -/
theorem wp_region_kept {id : Nat} {l : List Oper} {a₀ : Act} {w₀ : World} {n : Nat} (keep : List (Nat × Value)) (Φ : Nat → Value → World → Prop) (R : World → Prop) (Rel : World → World → Prop) (hm : P.follows .mixedOrders = true)
    (ht : tidyB .any l.toArray n = true) (hk : keptB l.toArray (keep.map (·.1)) = true)
    (hst : ∀ i v w w', Rel w w' → Φ i v w → Φ i v w')
    (hrun : ∀ (i : Nat) (o : Oper), l.toArray[i]? = some o → ∀ a w, Kept n keep a → R w → (∀ e ∈ o.after, Region.binds .any e = true → Φ e.on (valAt l.toArray a e.on) w) →
      o.wp P a w (fun a' w' => ∃ v, a' = a.put o.dst v ∧ (o.dst = none → v = undef) ∧ Rel w w' ∧ R w' ∧ Φ i v w') Q)
    (hdone : ∀ a w, Kept n keep a → R w → (∀ i, i < l.toArray.size → Φ i (valAt l.toArray a i) w) → Q .normal a w)
    (h1 : Kept n keep a₀) (h2 : R { w₀ with drawn := w₀.drawn + 1 }) : (Code.region id l.toArray true).wp P Q a₀ w₀ :=
  wp_region_sits hm Φ (Kept n keep) R Rel ht (fun a i o v hF hi => kept_put hk hF hi) (fun a hF => hF.2.1) hst hrun hdone h1 h2
end
end Go.Proofs.Ytggphjmlnbkngaa
