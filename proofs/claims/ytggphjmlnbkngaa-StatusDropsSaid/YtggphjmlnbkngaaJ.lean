/-
  Plain facts on words with and without slots: no program is named.
-/
import Derived.Test.YtggphjmlnbkngaaI
namespace Go.Proofs.Ytggphjmlnbkngaa
open Go.RowKit
set_option linter.unusedVariables false
set_option linter.unusedSimpArgs false
theorem withW_lt {x : Nat} (k s : Int) (hx : x < 18446744073709551616) : withW x k s < 18446744073709551616 := lt_or hx (bitOf_lt _ _)
theorem dropW_lt {x : Nat} (s : Int) (g : Bool) (hx : x < 18446744073709551616) : dropW x s g < 18446744073709551616 := dropN_lt g hx 2 (by omega)
theorem has_none (x : Nat) {k s : Int} (h : ¬ (0 ≤ k ∧ k ≤ 1 ∧ 0 ≤ s ∧ s < 12)) : hasW x k s = false := by
  unfold hasW
  rw [(of_none h).1]
theorem has_some {x : Nat} {k s : Int} (h : 0 ≤ k ∧ k ≤ 1 ∧ 0 ≤ s ∧ s < 12) : hasW x k s = x.testBit (12 * k + s).toNat := by
  unfold hasW
  rw [(of_some h).1]
theorem has_with (x : Nat) {k s : Int} (h : 0 ≤ k ∧ k ≤ 1 ∧ 0 ≤ s ∧ s < 12) : hasW (withW x k s) k s = true := by
  rw [has_some h]
  unfold withW
  rw [(of_some h).2]
  simp [Nat.testBit_or, testBit_pow]
theorem numW_bit (x f m j : Nat) : (numW x f m).testBit j = (decide (j < m) && x.testBit (f + j)) := by
  unfold numW
  rw [pw_eq, pw_eq, Nat.testBit_mod_two_pow, Nat.testBit_div_two_pow, Nat.add_comm]
theorem numW_ext {x y f m : Nat} (h : ∀ j, j < m → x.testBit (f + j) = y.testBit (f + j)) : numW x f m = numW y f m := by
  apply Nat.eq_of_testBit_eq
  intro j
  rw [numW_bit, numW_bit]
  by_cases hj : j < m
  · rw [h j hj]
  · simp [hj]
theorem any_with (x : Nat) {k s : Int} (h : 0 ≤ k ∧ k ≤ 1 ∧ 0 ≤ s ∧ s < 12) : anyW (withW x k s) k = true := by
  rw [any_yes ⟨h.1, h.2.1⟩]
  have : numW (withW x k s) (12 * k).toNat 12 ≠ 0 := by
    intro e
    have h1 := numW_bit (withW x k s) (12 * k).toNat 12 s.toNat
    rw [e, show (12 * k).toNat + s.toNat = (12 * k + s).toNat by omega, ← has_some h, has_with x h, decide_eq_true (show s.toNat < 12 by omega)] at h1
    simp at h1
  rw [decide_eq_true this]
  rfl
/-! ### A word without a slot, bit by bit -/
theorem drop_none (x : Nat) {s : Int} (g : Bool) (h : ¬ (0 ≤ s ∧ s < 12)) : dropW x s g = x := by
  unfold dropW dropN dropN dropN drop1
  rw [has_none (k := ((0 : Nat) : Int)) x (by omega), has_none (k := ((1 : Nat) : Int)) x (by omega)]
  rfl
theorem drop1_bit (x o : Nat) (k : Nat) (s : Nat) (g : Bool) (i : Nat) (hk : k ≤ 1) (hs : s < 12) :
    (drop1 x o (k : Int) (s : Int) g).testBit i = if x.testBit (12 * k + s) then ((o.testBit i && !decide (12 * k + s = i)) || (g && decide (24 + k = i))) else o.testBit i := by
  have h : 0 ≤ (k : Int) ∧ (k : Int) ≤ 1 ∧ 0 ≤ (s : Int) ∧ (s : Int) < 12 := by omega
  unfold drop1
  rw [has_some h, (of_some h).2, show (12 * (k : Int) + (s : Int)).toNat = 12 * k + s by omega, show (24 + (k : Int)).toNat = 24 + k by omega]
  split
  · cases g with
    | true => simp [testBit_clr, Nat.testBit_or, testBit_pow, pw_eq]
    | false => simp [testBit_clr, testBit_pow]
  · rfl
theorem dropW_bit (x s : Nat) (g : Bool) (i : Nat) (hs : s < 12) :
    (dropW x (s : Int) g).testBit i = ((x.testBit i && !decide (s = i) && !decide (12 + s = i)) || (g && x.testBit s && decide (24 = i)) || (g && x.testBit (12 + s) && decide (25 = i))) := by
  unfold dropW dropN dropN dropN
  rw [drop1_bit x _ 1 s g i (by omega) hs, drop1_bit x _ 0 s g i (by omega) hs]
  simp only [Nat.mul_one, Nat.mul_zero, Nat.zero_add, show 24 + 1 = 25 from rfl, Nat.add_zero]
  by_cases e1 : s = i
  · subst e1
    have n1 : ¬ 12 + s = s := by omega
    have n2 : ¬ 24 = s := by omega
    have n3 : ¬ 25 = s := by omega
    simp only [n1, n2, n3, decide_true, decide_false]
    cases x.testBit s <;> cases x.testBit (12 + s) <;> cases g <;> rfl
  · by_cases e2 : 12 + s = i
    · subst e2
      have n2 : ¬ 24 = 12 + s := by omega
      have n3 : ¬ 25 = 12 + s := by omega
      simp only [e1, n2, n3, decide_true, decide_false]
      cases x.testBit s <;> cases x.testBit (12 + s) <;> cases g <;> rfl
    · simp only [e1, e2, decide_false]
      cases x.testBit s <;> cases x.testBit (12 + s) <;> cases g <;> cases x.testBit i <;> cases decide (24 = i) <;> cases decide (25 = i) <;> rfl
theorem has_drop (x : Nat) {k s : Int} (g : Bool) (h0 : 0 ≤ k) (h1 : k ≤ 1) : hasW (dropW x s g) k s = false := by
  by_cases h : 0 ≤ s ∧ s < 12
  · obtain ⟨n, rfl⟩ := Int.eq_ofNat_of_zero_le h.1
    rw [has_some ⟨h0, h1, h⟩, dropW_bit x n g _ (by omega)]
    rcases (by omega : k = 0 ∨ k = 1) with rfl | rfl
    · have e1 : n = (12 * 0 + (n : Int)).toNat := by omega
      have n2 : ¬ 24 = (12 * 0 + (n : Int)).toNat := by omega
      have n3 : ¬ 25 = (12 * 0 + (n : Int)).toNat := by omega
      simp [n2, n3]
      omega
    · have e1 : 12 + n = (12 * 1 + (n : Int)).toNat := by omega
      have n2 : ¬ 24 = (12 * 1 + (n : Int)).toNat := by omega
      have n3 : ¬ 25 = (12 * 1 + (n : Int)).toNat := by omega
      rw [decide_eq_true e1, decide_eq_false n2, decide_eq_false n3]
      simp
  · exact has_none _ (by omega)
/-- A slot that was there leaves its mark on the side, if that is asked for. -/
theorem any_drop_had {x : Nat} {k s : Int} (h0 : 0 ≤ k) (h1 : k ≤ 1) (hh : hasW x k s = true) : anyW (dropW x s true) k = true := by
  by_cases h : 0 ≤ s ∧ s < 12
  · obtain ⟨n, rfl⟩ := Int.eq_ofNat_of_zero_le h.1
    rw [has_some ⟨h0, h1, h⟩] at hh
    rw [any_yes ⟨h0, h1⟩, dropW_bit x n true _ (by omega)]
    rcases (by omega : k = 0 ∨ k = 1) with rfl | rfl
    · rw [show (12 * 0 + (n : Int)).toNat = n by omega] at hh
      simp [hh]
    · rw [show (12 * 1 + (n : Int)).toNat = 12 + n by omega] at hh
      simp [hh]
  · rw [has_none x (by omega)] at hh
    cases hh
theorem any_drop_not {x : Nat} {k s : Int} (g : Bool) (h0 : 0 ≤ k) (h1 : k ≤ 1) (hh : hasW x k s = false) : anyW (dropW x s g) k = anyW x k := by
  by_cases h : 0 ≤ s ∧ s < 12
  · obtain ⟨n, rfl⟩ := Int.eq_ofNat_of_zero_le h.1
    rw [has_some ⟨h0, h1, h⟩] at hh
    rw [any_yes ⟨h0, h1⟩, any_yes ⟨h0, h1⟩]
    rcases (by omega : k = 0 ∨ k = 1) with rfl | rfl
    · rw [show (12 * 0 + (n : Int)).toNat = n by omega] at hh
      have e1 : (dropW x (n : Int) g).testBit (24 + 0 : Int).toNat = x.testBit (24 + 0 : Int).toNat := by
        rw [dropW_bit x n g _ (by omega)]
        have n1 : ¬ n = (24 + 0 : Int).toNat := by omega
        have n2 : ¬ 12 + n = (24 + 0 : Int).toNat := by omega
        have n3 : ¬ 25 = (24 + 0 : Int).toNat := by omega
        rw [decide_eq_false n1, decide_eq_false n2, decide_eq_false n3, hh]
        simp
      have e2 : numW (dropW x (n : Int) g) (12 * 0 : Int).toNat 12 = numW x (12 * 0 : Int).toNat 12 := numW_ext fun j hj => by
        rw [dropW_bit x n g _ (by omega)]
        have n2 : ¬ 12 + n = (12 * 0 : Int).toNat + j := by omega
        have n3 : ¬ 24 = (12 * 0 : Int).toNat + j := by omega
        have n4 : ¬ 25 = (12 * 0 : Int).toNat + j := by omega
        rw [decide_eq_false n2, decide_eq_false n3, decide_eq_false n4]
        by_cases e : n = (12 * 0 : Int).toNat + j
        · rw [← e, hh]; simp
        · rw [decide_eq_false e]; simp
      rw [e1, e2]
    · rw [show (12 * 1 + (n : Int)).toNat = 12 + n by omega] at hh
      have e1 : (dropW x (n : Int) g).testBit (24 + 1 : Int).toNat = x.testBit (24 + 1 : Int).toNat := by
        rw [dropW_bit x n g _ (by omega)]
        have n1 : ¬ n = (24 + 1 : Int).toNat := by omega
        have n2 : ¬ 12 + n = (24 + 1 : Int).toNat := by omega
        have n3 : ¬ 24 = (24 + 1 : Int).toNat := by omega
        rw [decide_eq_false n1, decide_eq_false n2, decide_eq_false n3, hh]
        simp
      have e2 : numW (dropW x (n : Int) g) (12 * 1 : Int).toNat 12 = numW x (12 * 1 : Int).toNat 12 := numW_ext fun j hj => by
        rw [dropW_bit x n g _ (by omega)]
        have n2 : ¬ n = (12 * 1 : Int).toNat + j := by omega
        have n3 : ¬ 24 = (12 * 1 : Int).toNat + j := by omega
        have n4 : ¬ 25 = (12 * 1 : Int).toNat + j := by omega
        rw [decide_eq_false n2, decide_eq_false n3, decide_eq_false n4]
        by_cases e : 12 + n = (12 * 1 : Int).toNat + j
        · rw [← e, hh]; simp
        · rw [decide_eq_false e]; simp
      rw [e1, e2]
  · rw [drop_none x g h]
theorem drop_same {x : Nat} {s : Int} (g : Bool) (h0 : hasW x 0 s = false) (h1 : hasW x 1 s = false) : dropW x s g = x := by
  unfold dropW dropN dropN dropN drop1
  rw [show hasW x ((0 : Nat) : Int) s = false from h0, show hasW x ((1 : Nat) : Int) s = false from h1]
  rfl
theorem drop_drop (x : Nat) (s : Int) (g g' : Bool) : dropW (dropW x s g) s g' = dropW x s g := drop_same g' (has_drop x g (by omega) (by omega)) (has_drop x g (by omega) (by omega))
theorem drop_with {x : Nat} (k : Int) {s : Int} (h0 : hasW x 0 s = false) (h1 : hasW x 1 s = false) : dropW (withW x k s) s false = x := by
  by_cases h : 0 ≤ k ∧ k ≤ 1 ∧ 0 ≤ s ∧ s < 12
  · obtain ⟨n, rfl⟩ := Int.eq_ofNat_of_zero_le h.2.2.1
    have hn : n < 12 := by omega
    rw [has_some (by omega)] at h0 h1
    rw [show (12 * 0 + (n : Int)).toNat = n by omega] at h0
    rw [show (12 * 1 + (n : Int)).toNat = 12 + n by omega] at h1
    apply Nat.eq_of_testBit_eq
    intro i
    rw [dropW_bit _ n false i hn]
    unfold withW
    rw [(of_some h).2, Nat.testBit_or, testBit_pow]
    simp only [Bool.false_and, Bool.or_false]
    by_cases e1 : n = i
    · subst e1; simp [h0]
    · by_cases e2 : 12 + n = i
      · subst e2; simp [h1]
      · have e3 : ¬ (12 * k + (n : Int)).toNat = i := by
          rcases (by omega : k = 0 ∨ k = 1) with rfl | rfl <;> omega
        simp [e1, e2, e3]
  · unfold withW
    rw [(of_none h).2, Nat.or_zero]
    exact drop_same false h0 h1
theorem with_ne {x : Nat} {k s : Int} (h : 0 ≤ k ∧ k ≤ 1 ∧ 0 ≤ s ∧ s < 12) (hh : hasW x k s = false) : withW x k s ≠ x := fun e => by
  have := has_with x h
  rw [e, hh] at this
  cases this
theorem with_none (x : Nat) {k s : Int} (h : ¬ (0 ≤ k ∧ k ≤ 1 ∧ 0 ≤ s ∧ s < 12)) : withW x k s = x := by
  unfold withW
  rw [(of_none h).2, Nat.or_zero]
end Go.Proofs.Ytggphjmlnbkngaa
