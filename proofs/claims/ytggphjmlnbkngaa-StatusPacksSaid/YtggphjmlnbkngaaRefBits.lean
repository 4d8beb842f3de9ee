/-
  The reference's Power, Bit and Put, each under its contract.
-/
import Derived.Test.YtggphjmlnbkngaaProg
import Derived.Test.YtggphjmlnbkngaaKit
import Derived.Test.YtggphjmlnbkngaaBits
namespace Go.Proofs.Ytggphjmlnbkngaa
open Go.RowKit
set_option linter.unusedVariables false
set_option linter.unusedSimpArgs false
theorem Power_any (n : Nat) (w : World) (hn : n < 64) :
    Calls Try.prog 26 #[.int .i64 (n : Int)] w fun e w' => e = .returned (.int .u64 (pw n : Int)) ∧ Below w.heap.size w w' := by
  go_enter Try.func26, Try.ntmps26
  go_wp2
  go_loop [3, 4] (fun u i => ∃ m : Nat, m ≤ n ∧ i = .int .i64 (m : Int) ∧ u = .int .u64 (pw m : Int)) (fun _ i => n - (intOf i).toNat)
  case atStart => exact ⟨0, by omega, rfl, rfl⟩
  case round =>
    obtain ⟨m, hm, rfl, rfl⟩ := hrel
    by_cases hlt : m < n
    · have hs : Hid (2 * (pw m : Int) = (pw (m + 1) : Int)) := by
        show _ = _
        rw [pw_eq, pw_eq, Nat.pow_succ]; omega
      have h0 : (0 : Int) ≤ (pw m : Int) := Int.natCast_nonneg _
      have hp : 2 * (pw m : Int) ≤ 18446744073709551615 := by
        rw [hs.out]; have := pw_lt (i := m + 1) (by omega); omega
      go_wp2
      go_round
      case rel => exact ⟨m + 1, by omega, by go_num, by rw [← hs.out]⟩
      case measure => simp [intOf]; omega
    · obtain rfl : m = n := by omega
      go_wp2
      go_ret
      exact ⟨rfl, Below.refl _ _⟩
theorem Bit_any (x n : Nat) (w : World) (hx : x < 18446744073709551616) (hn : n < 64) :
    Calls Try.prog 31 #[.int .u64 (x : Int), .int .i64 (n : Int)] w fun e w' => e = .returned (.bool (x.testBit n)) ∧ Below w.heap.size w w' := by
  have h1 : (1 : Int) ≤ (pw n : Int) := by have := pw_pos n; omega
  have hh : Hid (((x : Int) / (pw n : Int) % 2 == 1) = x.testBit n) := by
    show _ = _
    rw [Nat.testBit_eq_decide_div_mod_eq, Bool.eq_iff_iff, pw_eq]
    have e : ((x : Int) / ((2 ^ n : Nat) : Int)) = ((x / 2 ^ n : Nat) : Int) := (Int.natCast_ediv _ _).symm
    rw [e]
    generalize x / 2 ^ n = q
    simp
    omega
  have h2 : 0 ≤ (x : Int) / (pw n : Int) := Int.ediv_nonneg (by omega) (by omega)
  have h3 : (x : Int) / (pw n : Int) ≤ 18446744073709551615 := Int.le_trans (Int.ediv_le_self _ (by omega)) (by omega)
  go_enter Try.func31, Try.ntmps31
  go_wp2_with (go_at_call 26; refine (Power_any _ _ hn).mono ?_; rintro e w1 ⟨rfl, hb1⟩)
  go_ret
  exact ⟨by rw [← hh.out]; rfl, below_then (Below.refl _ _) hb1⟩
/-- A word whose bit is so. -/
def putW (x n : Nat) (b : Bool) : Nat := if b then x ||| pw n else clr x (pw n)
theorem Put_any (x n : Nat) (b : Bool) (w : World) (hx : x < 18446744073709551616) (hn : n < 64) :
    Calls Try.prog 27 #[.int .u64 (x : Int), .int .i64 (n : Int), .bool b] w fun e w' => e = .returned (.int .u64 (putW x n b : Int)) ∧ Below w.heap.size w w' := by
  cases h : x.testBit n with
  | true =>
    cases b with
    | true =>
      have e : putW x n true = x := or_bit_same h
      rw [e]
      go_enter Try.func27, Try.ntmps27
      go_wp2_with (first | (go_at_call 31; refine (Bit_any _ _ _ hx hn).mono ?_; rintro e w1 ⟨rfl, hb1⟩) | (go_at_call 26; refine (Power_any _ _ hn).mono ?_; rintro e w2 ⟨rfl, hb2⟩))
      go_ret
      exact ⟨rfl, by repeat (first | exact Below.refl _ _ | refine below_then ?_ (by assumption))⟩
    | false =>
      have h1 : pw n ≤ x := by
        have := Nat.ge_two_pow_of_testBit h
        exact this
      have e : ((putW x n false : Nat) : Int) = (x : Int) - (pw n : Int) := by
        have : putW x n false = x - pw n := (sub_bit h).symm
        rw [this]; omega
      rw [e]
      clear e
      have h2 : (pw n : Int) ≤ (x : Int) := by omega
      have h3 : 0 ≤ (pw n : Int) := by omega
      go_enter Try.func27, Try.ntmps27
      go_wp2_with (first | (go_at_call 31; refine (Bit_any _ _ _ hx hn).mono ?_; rintro e w1 ⟨rfl, hb1⟩) | (go_at_call 26; refine (Power_any _ _ hn).mono ?_; rintro e w2 ⟨rfl, hb2⟩))
      go_ret
      exact ⟨rfl, by repeat (first | exact Below.refl _ _ | refine below_then ?_ (by assumption))⟩
  | false =>
    cases b with
    | true =>
      have h1 : x ||| pw n < 18446744073709551616 := lt_or hx (pw_lt hn)
      have e : ((putW x n true : Nat) : Int) = (x : Int) + (pw n : Int) := by
        have : putW x n true = x + pw n := (add_bit h).symm
        rw [this]; omega
      have h4 : x + pw n < 18446744073709551616 := by rw [pw_eq, add_bit h]; exact h1
      rw [e]
      clear e h1
      have h3 : 0 ≤ (pw n : Int) := by omega
      go_enter Try.func27, Try.ntmps27
      go_wp2_with (first | (go_at_call 31; refine (Bit_any _ _ _ hx hn).mono ?_; rintro e w1 ⟨rfl, hb1⟩) | (go_at_call 26; refine (Power_any _ _ hn).mono ?_; rintro e w2 ⟨rfl, hb2⟩))
      go_ret
      exact ⟨rfl, by repeat (first | exact Below.refl _ _ | refine below_then ?_ (by assumption))⟩
    | false =>
      have e : putW x n false = x := clr_bit_same h
      rw [e]
      go_enter Try.func27, Try.ntmps27
      go_wp2_with (first | (go_at_call 31; refine (Bit_any _ _ _ hx hn).mono ?_; rintro e w1 ⟨rfl, hb1⟩) | (go_at_call 26; refine (Power_any _ _ hn).mono ?_; rintro e w2 ⟨rfl, hb2⟩))
      go_ret
      exact ⟨rfl, by repeat (first | exact Below.refl _ _ | refine below_then ?_ (by assumption))⟩
theorem putW_lt {x n : Nat} (b : Bool) (hx : x < 18446744073709551616) (hn : n < 64) : putW x n b < 18446744073709551616 := by
  unfold putW; split
  · exact lt_or hx (pw_lt hn)
  · exact lt_clr _ hx
end Go.Proofs.Ytggphjmlnbkngaa
