/-
  Plain facts on the bits of numbers: no program is named.
-/
import Derived.Laws.Bits64b
import Derived.Laws.BitsLemmas
import Derived.IntWalk
namespace Go.Proofs.Ytggphjmlnbkngaa
set_option linter.unusedVariables false
set_option linter.unusedSimpArgs false
/-- A word without the bits of another one. -/
def clr (a b : Nat) : Nat := a ^^^ (a &&& b)
theorem testBit_clr (a b i : Nat) : (clr a b).testBit i = (a.testBit i && !b.testBit i) := by
  unfold clr
  rw [Nat.testBit_xor, Nat.testBit_and]
  cases a.testBit i <;> cases b.testBit i <;> rfl
theorem clr_le (a b : Nat) : clr a b ≤ a := by
  apply Nat.le_of_testBit
  intro i
  rw [testBit_clr]
  cases a.testBit i <;> simp
theorem add_bit {w i : Nat} (h : w.testBit i = false) : w + 2 ^ i = w ||| 2 ^ i := by
  have h1 : w % 2 ^ (i + 1) < 2 ^ i := by
    rw [Nat.testBit_eq_decide_div_mod_eq] at h
    have h2 : ¬ w / 2 ^ i % 2 = 1 := by simpa using h
    have h3 : w % 2 ^ (i + 1) = w % 2 ^ i + 2 ^ i * (w / 2 ^ i % 2) := by rw [Nat.pow_succ, Nat.mod_mul]
    have h4 : w / 2 ^ i % 2 = 0 := by omega
    rw [h3, h4]
    simp [Nat.mod_lt _ (Nat.two_pow_pos i)]
  have hw : w = 2 ^ (i + 1) * (w / 2 ^ (i + 1)) + w % 2 ^ (i + 1) := (Nat.div_add_mod _ _).symm
  generalize w % 2 ^ (i + 1) = l at *
  generalize w / 2 ^ (i + 1) = k at *
  have h5 : 2 ^ i * 1 + l = 2 ^ i * 1 ||| l := Nat.two_pow_add_eq_or_of_lt h1 1
  have h6 : 2 ^ i + l < 2 ^ (i + 1) := by rw [Nat.pow_succ]; omega
  have h7 : l < 2 ^ (i + 1) := by rw [Nat.pow_succ]; omega
  have h8 := Nat.two_pow_add_eq_or_of_lt h6 k
  have h9 := Nat.two_pow_add_eq_or_of_lt h7 k
  rw [Nat.mul_one] at h5
  rw [hw, show 2 ^ (i + 1) * k + l + 2 ^ i = 2 ^ (i + 1) * k + (2 ^ i + l) by omega, h8, h9, h5, Nat.or_assoc, Nat.or_comm l]
theorem testBit_pow (i j : Nat) : (2 ^ i).testBit j = decide (i = j) := by rw [Nat.testBit_two_pow]
theorem sub_bit {w i : Nat} (h : w.testBit i = true) : w - 2 ^ i = clr w (2 ^ i) := by
  have h1 : (clr w (2 ^ i)).testBit i = false := by rw [testBit_clr, testBit_pow]; simp
  have h2 : clr w (2 ^ i) + 2 ^ i = w := by
    rw [add_bit h1]
    apply Nat.eq_of_testBit_eq
    intro j
    rw [Nat.testBit_or, testBit_clr, testBit_pow]
    by_cases e : i = j
    · subst e; simp [h]
    · simp [e]
  omega
theorem or_bit_same {w i : Nat} (h : w.testBit i = true) : w ||| 2 ^ i = w := by
  apply Nat.eq_of_testBit_eq
  intro j
  rw [Nat.testBit_or, testBit_pow]
  by_cases e : i = j
  · subst e; simp [h]
  · simp [e]
theorem clr_bit_same {w i : Nat} (h : w.testBit i = false) : clr w (2 ^ i) = w := by
  apply Nat.eq_of_testBit_eq
  intro j
  rw [testBit_clr, testBit_pow]
  by_cases e : i = j
  · subst e; simp [h]
  · simp [e]
theorem and_pow_pos (w i : Nat) : decide (0 < w &&& 2 ^ i) = w.testBit i := by
  cases h : w.testBit i with
  | true =>
    have : (w &&& 2 ^ i).testBit i = true := by rw [Nat.testBit_and, h, testBit_pow]; simp
    rw [decide_eq_true]
    rcases Nat.eq_zero_or_pos (w &&& 2 ^ i) with e | e
    · rw [e] at this; simp at this
    · exact e
  | false =>
    rw [decide_eq_false]
    have : w &&& 2 ^ i = 0 := by
      apply Nat.eq_of_testBit_eq
      intro j
      rw [Nat.testBit_and, testBit_pow]
      by_cases e : i = j
      · subst e; simp [h]
      · simp [e]
    omega
theorem lt_or {a b : Nat} (ha : a < 18446744073709551616) (hb : b < 18446744073709551616) : a ||| b < 18446744073709551616 := Nat.or_lt_two_pow (n := 64) ha hb
theorem lt_clr {a : Nat} (b : Nat) (ha : a < 18446744073709551616) : clr a b < 18446744073709551616 := Nat.lt_of_le_of_lt (clr_le a b) ha
theorem lt_pow {i : Nat} (h : i < 64) : 2 ^ i < 18446744073709551616 := Nat.pow_lt_pow_right (by omega) h
/-- 2 to a number, behind a name that no simp looks behind. -/
def pw (n : Nat) : Nat := 2 ^ n
theorem pw_eq (n : Nat) : pw n = 2 ^ n := rfl
theorem pw_lt {i : Nat} (h : i < 64) : pw i < 18446744073709551616 := lt_pow h
theorem pw_pos (n : Nat) : 1 ≤ pw n := Nat.two_pow_pos n
/-! ### The model's words -/
theorem go_and (a b : Nat) (ha : a < 18446744073709551616) (hb : b < 18446744073709551616) : bits .and .u64 (a : Int) (b : Int) = ((a &&& b : Nat) : Int) := bits_and_u64_nat a b ha hb
theorem go_or (a b : Nat) (ha : a < 18446744073709551616) (hb : b < 18446744073709551616) : bits .or .u64 (a : Int) (b : Int) = ((a ||| b : Nat) : Int) := bits_or_u64_nat a b ha hb
theorem go_clr (a b : Nat) (ha : a < 18446744073709551616) (hb : b < 18446744073709551616) : bits .andNot .u64 (a : Int) (b : Int) = ((clr a b : Nat) : Int) := by
  have h1 : (BitVec.ofInt 64 (a : Int)).toNat = a := by
    rw [BitVec.ofInt_natCast, BitVec.toNat_ofNat]; exact Nat.mod_eq_of_lt (by omega)
  have h2 : (BitVec.ofInt 64 (b : Int)).toNat = b := by
    rw [BitVec.ofInt_natCast, BitVec.toNat_ofNat]; exact Nat.mod_eq_of_lt (by omega)
  have h3 : (BitVec.ofInt 64 (a : Int) &&& ~~~ BitVec.ofInt 64 (b : Int)).toNat = clr a b := by
    apply Nat.eq_of_testBit_eq
    intro i
    rw [testBit_clr, BitVec.testBit_toNat, BitVec.getLsbD_and, BitVec.getLsbD_not, ← BitVec.testBit_toNat, ← BitVec.testBit_toNat, h1, h2]
    by_cases hi : i < 64
    · simp [hi]
    · have : a.testBit i = false := Nat.testBit_lt_two_pow (Nat.lt_of_lt_of_le (show a < 2 ^ 64 from ha) (Nat.pow_le_pow_right (by omega) (by omega)))
      simp [this]
  show IntKind.u64.wrap ((BitVec.ofInt 64 (a : Int) &&& ~~~ BitVec.ofInt 64 (b : Int)).toNat : Int) = _
  rw [h3]
  have := lt_clr b ha
  exact IntWalk.u64_in _ (by omega)
end Go.Proofs.Ytggphjmlnbkngaa
