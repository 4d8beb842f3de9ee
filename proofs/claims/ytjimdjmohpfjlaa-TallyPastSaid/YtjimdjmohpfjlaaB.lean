/-
  The next word of a tally, and the example that each law of it bears.
-/
import Derived.Test.YtjimdjmohpfjlaaA
namespace Go.Proofs.Ytjimdjmohpfjlaa
open Go.RowKit
set_option linter.unusedVariables false
set_option linter.unusedSimpArgs false
/-! ### Next -/
def nextB (x p : Int) : Bool := decide (x % 16 = 0 ∧ 0 ≤ p ∧ p ≤ 11 ∧ x / 16 < 1099511627775)
def nextW (x p : Int) : Int := if nextB x p then 16 * (x / 16 + 1) + (p + 1) else 0
theorem next_yes {x p : Int} (h : x % 16 = 0 ∧ 0 ≤ p ∧ p ≤ 11 ∧ x / 16 < 1099511627775) : nextB x p = true ∧ nextW x p = 16 * (x / 16 + 1) + (p + 1) := by
  have : nextB x p = true := by unfold nextB; exact decide_eq_true h
  exact ⟨this, by unfold nextW; rw [if_pos this]⟩
theorem next_no {x p : Int} (h : ¬ (x % 16 = 0 ∧ 0 ≤ p ∧ p ≤ 11 ∧ x / 16 < 1099511627775)) : nextB x p = false ∧ nextW x p = 0 := by
  have : nextB x p = false := by unfold nextB; exact decide_eq_false h
  exact ⟨this, by unfold nextW; rw [if_neg (by simp [this])]⟩

theorem Next_any (x p : Int) (w : World) (h0 : 0 ≤ x) (h1 : x < 18446744073709551616) :
    Calls Try.prog 16 #[.int .u64 x, .int .i64 p] w fun e w' => e = .returned (.tuple #[.int .u64 (nextW x p), .bool (nextB x p)]) ∧ Below w.heap.size w w' := by
  by_cases c1 : x % 16 = 0
  · by_cases c2 : p < 0
    · obtain ⟨e1, e2⟩ := next_no (x := x) (p := p) (by omega)
      rw [e1, e2]
      clear e1 e2
      go_enter Try.func16, Try.ntmps16
      go_wp2_with (go_at_call 12; refine (Unpack_any _ _ h0 h1).mono ?_; rintro e w1 ⟨rfl, hb1⟩)
      go_ret2
      exact ⟨rfl, below_alloc (below_then (Below.refl _ _) hb1) _⟩
    · by_cases c3 : x / 16 < 1099511627775 ∧ p ≤ 11
      · obtain ⟨e1, e2⟩ := next_yes (x := x) (p := p) (by omega)
        rw [e1, e2]
        clear e1 e2
        go_enter Try.func16, Try.ntmps16
        go_wp2_with (first | (go_at_call 12; refine (Unpack_any _ _ h0 h1).mono ?_; rintro e w1 ⟨rfl, hb1⟩) | (go_at_call 9; refine (Pack_yes _ _ _ (by omega) (by omega) (by omega) (by omega)).mono ?_; rintro e w2 ⟨rfl, hb2⟩))
        go_ret2
        exact ⟨rfl, below_then (below_alloc (below_then (Below.refl _ _) hb1) _) hb2⟩
      · obtain ⟨e1, e2⟩ := next_no (x := x) (p := p) (by omega)
        rw [e1, e2]
        clear e1 e2
        go_enter Try.func16, Try.ntmps16
        go_wp2_with (first | (go_at_call 12; refine (Unpack_any _ _ h0 h1).mono ?_; rintro e w1 ⟨rfl, hb1⟩) | (go_at_call 9; refine (Pack_no _ _ _ (by omega) (by omega)).mono ?_; rintro e w2 ⟨rfl, hb2⟩))
        go_ret2
        exact ⟨rfl, below_then (below_alloc (below_then (Below.refl _ _) hb1) _) hb2⟩
  · obtain ⟨e1, e2⟩ := next_no (x := x) (p := p) (by omega)
    rw [e1, e2]
    clear e1 e2
    have hz : (x % 16 - 1 == -1) = false := by simp; omega
    go_enter Try.func16, Try.ntmps16
    go_wp2_with (go_at_call 12; refine (Unpack_any _ _ h0 h1).mono ?_; rintro e w1 ⟨rfl, hb1⟩)
    go_ret2
    exact ⟨rfl, below_alloc (below_then (Below.refl _ _) hb1) _⟩
theorem RNext_any (x p : Int) (w : World) (h0 : 0 ≤ x) (h1 : x < 18446744073709551616) :
    Calls Try.prog 17 #[.int .u64 x, .int .i64 p] w fun e w' => e = .returned (.tuple #[.int .u64 (nextW x p), .bool (nextB x p)]) ∧ Below w.heap.size w w' := by
  by_cases c1 : x % 16 = 0
  · by_cases c2 : p < 0
    · obtain ⟨e1, e2⟩ := next_no (x := x) (p := p) (by omega)
      rw [e1, e2]
      clear e1 e2
      go_enter Try.func17, Try.ntmps17
      go_wp2_with (go_at_call 14; refine (RUnpack_any _ _ h0 h1).mono ?_; rintro e w1 ⟨rfl, hb1⟩)
      go_ret2
      exact ⟨rfl, below_alloc (below_then (Below.refl _ _) hb1) _⟩
    · by_cases c3 : x / 16 < 1099511627775 ∧ p ≤ 11
      · obtain ⟨e1, e2⟩ := next_yes (x := x) (p := p) (by omega)
        rw [e1, e2]
        clear e1 e2
        go_enter Try.func17, Try.ntmps17
        go_wp2_with (first | (go_at_call 14; refine (RUnpack_any _ _ h0 h1).mono ?_; rintro e w1 ⟨rfl, hb1⟩) | (go_at_call 10; refine (RPack_yes _ _ _ (by omega) (by omega) (by omega) (by omega)).mono ?_; rintro e w2 ⟨rfl, hb2⟩))
        go_ret2
        exact ⟨rfl, below_then (below_alloc (below_then (Below.refl _ _) hb1) _) hb2⟩
      · obtain ⟨e1, e2⟩ := next_no (x := x) (p := p) (by omega)
        rw [e1, e2]
        clear e1 e2
        go_enter Try.func17, Try.ntmps17
        go_wp2_with (first | (go_at_call 14; refine (RUnpack_any _ _ h0 h1).mono ?_; rintro e w1 ⟨rfl, hb1⟩) | (go_at_call 10; refine (RPack_no _ _ _ (by omega) (by omega)).mono ?_; rintro e w2 ⟨rfl, hb2⟩))
        go_ret2
        exact ⟨rfl, below_then (below_alloc (below_then (Below.refl _ _) hb1) _) hb2⟩
  · obtain ⟨e1, e2⟩ := next_no (x := x) (p := p) (by omega)
    rw [e1, e2]
    clear e1 e2
    have hz : (x % 16 - 1 != -1) = true := by simp; omega
    go_enter Try.func17, Try.ntmps17
    go_wp2_with (go_at_call 14; refine (RUnpack_any _ _ h0 h1).mono ?_; rintro e w1 ⟨rfl, hb1⟩)
    go_ret2
    exact ⟨rfl, below_alloc (below_then (Below.refl _ _) hb1) _⟩
/-! ### alive -/
theorem alive_any (w : World) : Calls Try.prog 11 #[] w fun e w' => e = .returned (.bool true) ∧ Below w.heap.size w w' := by
  have n1 : nextW 80 2 = 99 := by decide
  have n2 : nextB 80 2 = true := by decide
  have n3 : nextW 99 3 = 0 := by decide
  have n4 : nextB 99 3 = false := by decide
  have p1 : pastB 6 5 = false := by decide
  have p2 : pastB 5 5 = true := by decide
  have p3 : pastB 0 5 = false := by decide
  go_enter Try.func11, Try.ntmps11
  go_wp2_with (first
    | (go_at_call 9; refine (Pack_yes _ _ _ (by omega) (by omega) (by omega) (by omega)).mono ?_; rintro e w1 ⟨rfl, hb1⟩)
    | (go_at_call 9; refine (Pack_no _ _ _ (by omega) (by omega)).mono ?_; rintro e w2 ⟨rfl, hb2⟩)
    | (go_at_call 16; refine (Next_any _ _ _ (by omega) (by omega)).mono ?_; rintro e w3 ⟨rfl, hb3⟩)
    | (go_at_call 12; refine (Unpack_any _ _ (by omega) (by omega)).mono ?_; rintro e w4 ⟨rfl, hb4⟩)
    | (go_at_call 13; refine (Settled_any _ _ (by omega) (by omega)).mono ?_; rintro e w5 ⟨rfl, hb5⟩)
    | (go_at_call 18; refine (Past_any _ _ _ (by omega)).mono ?_; rintro e w6 ⟨rfl, hb6⟩))
  go_ret
  exact ⟨rfl, by repeat (first | exact Below.refl _ _ | refine below_alloc ?_ _ | refine below_then ?_ (by assumption))⟩
end Go.Proofs.Ytjimdjmohpfjlaa
