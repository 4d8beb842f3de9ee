/-
  The reference's marks, each under its contract.
-/
import Derived.Test.YtepbnfekicdlpaaA
import Derived.Test.YtepbnfekicdlpaaRefBits
namespace Go.Proofs.Ytepbnfekicdlpaa
open Go.RowKit
set_option linter.unusedVariables false
set_option linter.unusedSimpArgs false
theorem at_yes (k s : Int) (w : World) (h1 : 0 ≤ k) (h2 : k ≤ 1) (h3 : 0 ≤ s) (h4 : s < 12) :
    Calls Try.prog 22 #[.int .i64 k, .int .i64 s] w fun e w' => e = .returned (.int .i64 (12 * k + s)) ∧ Below w.heap.size w w' := by
  go_enter Try.func22, Try.ntmps22
  go_wp2
  go_ret
  exact ⟨rfl, Below.refl _ _⟩
theorem at_no (k s : Int) (w : World) (h : ¬ (0 ≤ k ∧ k ≤ 1 ∧ 0 ≤ s ∧ s < 12)) :
    Calls Try.prog 22 #[.int .i64 k, .int .i64 s] w fun e w' => e = .returned (.int .i64 (-1)) ∧ Below w.heap.size w w' := by
  by_cases c1 : k < 0
  · clear h
    go_enter Try.func22, Try.ntmps22
    go_wp2
    go_ret
    exact ⟨rfl, Below.refl _ _⟩
  · by_cases c2 : 1 < k
    · clear h
      go_enter Try.func22, Try.ntmps22
      go_wp2
      go_ret
      exact ⟨rfl, Below.refl _ _⟩
    · by_cases c3 : s < 0
      · clear h
        go_enter Try.func22, Try.ntmps22
        go_wp2
        go_ret
        exact ⟨rfl, Below.refl _ _⟩
      · have c4 : 11 < s := by omega
        clear h
        go_enter Try.func22, Try.ntmps22
        go_wp2
        go_ret
        exact ⟨rfl, Below.refl _ _⟩
/-- Bit and Put at a place that is given as an Int. -/
theorem Bit_at (x : Nat) (p : Int) (w : World) (hx : x < 18446744073709551616) (h0 : 0 ≤ p) (h1 : p < 64) :
    Calls Try.prog 23 #[.int .u64 (x : Int), .int .i64 p] w fun e w' => e = .returned (.bool (x.testBit p.toNat)) ∧ Below w.heap.size w w' := by
  obtain ⟨n, rfl⟩ := Int.eq_ofNat_of_zero_le h0
  exact Bit_any x n w hx (by omega)
theorem Put_at (x : Nat) (p : Int) (b : Bool) (w : World) (hx : x < 18446744073709551616) (h0 : 0 ≤ p) (h1 : p < 64) :
    Calls Try.prog 24 #[.int .u64 (x : Int), .int .i64 p, .bool b] w fun e w' => e = .returned (.int .u64 (putW x p.toNat b : Int)) ∧ Below w.heap.size w w' := by
  obtain ⟨n, rfl⟩ := Int.eq_ofNat_of_zero_le h0
  exact Put_any x n b w hx (by omega)
theorem RHas_any (x : Nat) (k s : Int) (w : World) (hx : x < 18446744073709551616) :
    Calls Try.prog 13 #[.int .u64 x, .int .i64 k, .int .i64 s] w fun e w' => e = .returned (.bool (hasW x k s)) ∧ Below w.heap.size w w' := by
  by_cases h : 0 ≤ k ∧ k ≤ 1 ∧ 0 ≤ s ∧ s < 12
  · have e : hasW x k s = x.testBit (12 * k + s).toNat := by unfold hasW; rw [(of_some h).1]
    obtain ⟨h1, h2, h3, h4⟩ := h
    rw [e]
    clear e
    have h5 : 0 ≤ 12 * k + s := by omega
    go_enter Try.func13, Try.ntmps13
    go_wp2_with (first | (go_at_call 22; refine (at_yes _ _ _ h1 h2 h3 h4).mono ?_; rintro e w1 ⟨rfl, hb1⟩) | (go_at_call 23; refine (Bit_at _ _ _ hx (by omega) (by omega)).mono ?_; rintro e w2 ⟨rfl, hb2⟩))
    go_ret
    exact ⟨rfl, by repeat (first | exact Below.refl _ _ | refine below_then ?_ (by assumption))⟩
  · have e : hasW x k s = false := by unfold hasW; rw [(of_none h).1]
    rw [e]
    clear e
    go_enter Try.func13, Try.ntmps13
    go_wp2_with (first | (go_at_call 22; refine (at_no _ _ _ h).mono ?_; rintro e w1 ⟨rfl, hb1⟩))
    go_ret
    exact ⟨rfl, by repeat (first | exact Below.refl _ _ | refine below_then ?_ (by assumption))⟩
theorem RWith_any (x : Nat) (k s : Int) (w : World) (hx : x < 18446744073709551616) :
    Calls Try.prog 14 #[.int .u64 x, .int .i64 k, .int .i64 s] w fun e w' => e = .returned (.int .u64 (withW x k s)) ∧ Below w.heap.size w w' := by
  by_cases h : 0 ≤ k ∧ k ≤ 1 ∧ 0 ≤ s ∧ s < 12
  · have e : withW x k s = putW x (12 * k + s).toNat true := by unfold withW; rw [(of_some h).2]; rfl
    obtain ⟨h1, h2, h3, h4⟩ := h
    rw [e]
    clear e
    have h5 : 0 ≤ 12 * k + s := by omega
    go_enter Try.func14, Try.ntmps14
    go_wp2_with (first | (go_at_call 22; refine (at_yes _ _ _ h1 h2 h3 h4).mono ?_; rintro e w1 ⟨rfl, hb1⟩) | (go_at_call 24; refine (Put_at _ _ _ _ hx (by omega) (by omega)).mono ?_; rintro e w2 ⟨rfl, hb2⟩))
    go_ret
    exact ⟨rfl, by repeat (first | exact Below.refl _ _ | refine below_then ?_ (by assumption))⟩
  · have e : withW x k s = x := by unfold withW; rw [(of_none h).2]; simp
    rw [e]
    clear e
    go_enter Try.func14, Try.ntmps14
    go_wp2_with (first | (go_at_call 22; refine (at_no _ _ _ h).mono ?_; rintro e w1 ⟨rfl, hb1⟩))
    go_ret
    exact ⟨rfl, by repeat (first | exact Below.refl _ _ | refine below_then ?_ (by assumption))⟩
theorem drop_puts (x : Nat) (s : Int) (h3 : 0 ≤ s) (h4 : s < 12) : dropW x s = putW (putW x s.toNat false) (12 + s).toNat false := by
  unfold dropW putW
  rw [(of_some (k := 0) (s := s) (by omega)).2, (of_some (k := 1) (s := s) (by omega)).2]
  apply Nat.eq_of_testBit_eq
  intro i
  simp only [Bool.false_eq_true, if_false, testBit_clr, Nat.testBit_or, pw_eq]
  rw [show (12 * 0 + s).toNat = s.toNat by omega, show (12 * 1 + s).toNat = (12 + s).toNat by omega]
  cases x.testBit i <;> cases (2 ^ s.toNat).testBit i <;> cases (2 ^ (12 + s).toNat).testBit i <;> rfl
theorem RDrop_any (x : Nat) (s : Int) (w : World) (hx : x < 18446744073709551616) :
    Calls Try.prog 16 #[.int .u64 x, .int .i64 s] w fun e w' => e = .returned (.int .u64 (dropW x s)) ∧ Below w.heap.size w w' := by
  by_cases h : 0 ≤ s ∧ s < 12
  · obtain ⟨h3, h4⟩ := h
    rw [drop_puts x s h3 h4]
    have h6 : putW x s.toNat false < 18446744073709551616 := putW_lt _ hx (by omega)
    go_enter Try.func16, Try.ntmps16
    go_wp2_with (first | (go_at_call 22; refine (at_yes _ _ _ (by omega) (by omega) h3 h4).mono ?_; rintro e w1 ⟨rfl, hb1⟩) | (go_at_call 24; refine (Put_at _ _ _ _ (by assumption) (by omega) (by omega)).mono ?_; rintro e w2 ⟨rfl, hb2⟩))
    go_ret
    exact ⟨rfl, by repeat (first | exact Below.refl _ _ | refine below_then ?_ (by assumption))⟩
  · have e : dropW x s = x := by
      unfold dropW
      rw [(of_none (k := 0) (s := s) (by omega)).2, (of_none (k := 1) (s := s) (by omega)).2]
      simp [clr]
    rw [e]
    clear e
    go_enter Try.func16, Try.ntmps16
    go_wp2_with (first | (go_at_call 22; refine (at_no _ _ _ (by omega)).mono ?_; rintro e w1 ⟨rfl, hb1⟩))
    go_ret
    exact ⟨rfl, by repeat (first | exact Below.refl _ _ | refine below_then ?_ (by assumption))⟩
end Go.Proofs.Ytepbnfekicdlpaa
