/-
  The walks of the laws MarkBits, MarkDrops, MarkBack and MarkSlots.
-/
import Derived.Test.YtepbnfekicdlpaaF
namespace Go.Proofs.Ytepbnfekicdlpaa
open Go.RowKit
set_option linter.unusedVariables false
set_option linter.unusedSimpArgs false
/-! ### Plain facts -/
theorem withW_lt {x : Nat} (k s : Int) (hx : x < 18446744073709551616) : withW x k s < 18446744073709551616 := lt_or hx (bitOf_lt _ _)
theorem dropW_lt {x : Nat} (s : Int) (hx : x < 18446744073709551616) : dropW x s < 18446744073709551616 := lt_clr _ hx
theorem with_with (x : Nat) (k s : Int) : withW (withW x k s) k s = withW x k s := by
  unfold withW
  rw [Nat.or_assoc, Nat.or_self]
theorem has_with (x : Nat) {k s : Int} (h : 0 ≤ k ∧ k ≤ 1 ∧ 0 ≤ s ∧ s < 12) : hasW (withW x k s) k s = true := by
  unfold hasW withW
  rw [(of_some h).1, (of_some h).2]
  simp [Nat.testBit_or, testBit_pow]
theorem has_none (x : Nat) {k s : Int} (h : ¬ (0 ≤ k ∧ k ≤ 1 ∧ 0 ≤ s ∧ s < 12)) : hasW x k s = false := by
  unfold hasW
  rw [(of_none h).1]
theorem has_some {x : Nat} {k s : Int} (h : 0 ≤ k ∧ k ≤ 1 ∧ 0 ≤ s ∧ s < 12) : hasW x k s = x.testBit (12 * k + s).toNat := by
  unfold hasW
  rw [(of_some h).1]
theorem has_drop (x : Nat) {k s : Int} (h0 : 0 ≤ k) (h1 : k ≤ 1) : hasW (dropW x s) k s = false := by
  by_cases h : 0 ≤ k ∧ k ≤ 1 ∧ 0 ≤ s ∧ s < 12
  · unfold hasW dropW
    rw [(of_some h).1]
    simp only [testBit_clr, Nat.testBit_or]
    rcases (by omega : k = 0 ∨ k = 1) with rfl | rfl
    · rw [(of_some (k := 0) (s := s) (by omega)).2, testBit_pow]
      simp
    · rw [(of_some (k := 1) (s := s) (by omega)).2, testBit_pow]
      simp
  · exact has_none _ h
theorem MarkBits_walk (x : Int) (wx : (Lit.int .u64 x).wf = true) (k : Int) (wk : (Lit.int .i64 k).wf = true) (s : Int) (ws : (Lit.int .i64 s).wf = true) (w : World) :
    Calls Try.prog 3 #[.int .u64 x, .int .i64 k, .int .i64 s] w fun e w' => e = .returned (.bool true) ∧ Below w.heap.size w w' := by
  obtain ⟨h0, h1⟩ := u64_bd wx
  obtain ⟨x, rfl⟩ := Int.eq_ofNat_of_zero_le h0
  have hx : x < 18446744073709551616 := by omega
  clear wx wk ws h0 h1
  have hw := withW_lt k s hx
  have e1 := with_with x k s
  by_cases h : 0 ≤ k ∧ k ≤ 1 ∧ 0 ≤ s ∧ s < 12
  · have e2 := has_with x h
    obtain ⟨a1, a2, a3, a4⟩ := h
    go_enter Try.func3, Try.ntmps3
    go_wp2_with (first
      | (go_at_call 10; refine (With_any _ _ _ _ (by assumption)).mono ?_; rintro e w1 ⟨rfl, hb1⟩)
      | (go_at_call 12; refine (Has_any _ _ _ _ (by assumption)).mono ?_; rintro e w2 ⟨rfl, hb2⟩)
      | (go_at_call 13; refine (RHas_any _ _ _ _ (by assumption)).mono ?_; rintro e w3 ⟨rfl, hb3⟩)
      | (go_at_call 14; refine (RWith_any _ _ _ _ (by assumption)).mono ?_; rintro e w4 ⟨rfl, hb4⟩)
      | (go_at_call 15; refine (Drop_any _ _ _ (by assumption)).mono ?_; rintro e w5 ⟨rfl, hb5⟩)
      | (go_at_call 16; refine (RDrop_any _ _ _ (by assumption)).mono ?_; rintro e w6 ⟨rfl, hb6⟩)
      | (go_at_call 11; refine (alive_any _).mono ?_; rintro e w9 ⟨rfl, hb9⟩))
    go_ret
    exact ⟨rfl, by repeat (first | exact Below.refl _ _ | refine below_alloc ?_ _ | refine below_then ?_ (by assumption))⟩
  · have e2 := has_none (withW x k s) h
    by_cases c1 : 0 ≤ k
    · by_cases c2 : k ≤ 1
      · by_cases c3 : 0 ≤ s
        · have c4 : decide (s < 12) = false := decide_eq_false (by omega)
          clear h
          go_enter Try.func3, Try.ntmps3
          go_wp2_with (first
            | (go_at_call 10; refine (With_any _ _ _ _ (by assumption)).mono ?_; rintro e w1 ⟨rfl, hb1⟩)
            | (go_at_call 12; refine (Has_any _ _ _ _ (by assumption)).mono ?_; rintro e w2 ⟨rfl, hb2⟩)
            | (go_at_call 13; refine (RHas_any _ _ _ _ (by assumption)).mono ?_; rintro e w3 ⟨rfl, hb3⟩)
            | (go_at_call 14; refine (RWith_any _ _ _ _ (by assumption)).mono ?_; rintro e w4 ⟨rfl, hb4⟩)
            | (go_at_call 15; refine (Drop_any _ _ _ (by assumption)).mono ?_; rintro e w5 ⟨rfl, hb5⟩)
            | (go_at_call 16; refine (RDrop_any _ _ _ (by assumption)).mono ?_; rintro e w6 ⟨rfl, hb6⟩)
            | (go_at_call 11; refine (alive_any _).mono ?_; rintro e w9 ⟨rfl, hb9⟩))
          go_ret
          exact ⟨rfl, by repeat (first | exact Below.refl _ _ | refine below_alloc ?_ _ | refine below_then ?_ (by assumption))⟩
        · clear h
          go_enter Try.func3, Try.ntmps3
          go_wp2_with (first
            | (go_at_call 10; refine (With_any _ _ _ _ (by assumption)).mono ?_; rintro e w1 ⟨rfl, hb1⟩)
            | (go_at_call 12; refine (Has_any _ _ _ _ (by assumption)).mono ?_; rintro e w2 ⟨rfl, hb2⟩)
            | (go_at_call 13; refine (RHas_any _ _ _ _ (by assumption)).mono ?_; rintro e w3 ⟨rfl, hb3⟩)
            | (go_at_call 14; refine (RWith_any _ _ _ _ (by assumption)).mono ?_; rintro e w4 ⟨rfl, hb4⟩)
            | (go_at_call 15; refine (Drop_any _ _ _ (by assumption)).mono ?_; rintro e w5 ⟨rfl, hb5⟩)
            | (go_at_call 16; refine (RDrop_any _ _ _ (by assumption)).mono ?_; rintro e w6 ⟨rfl, hb6⟩)
            | (go_at_call 11; refine (alive_any _).mono ?_; rintro e w9 ⟨rfl, hb9⟩))
          go_ret
          exact ⟨rfl, by repeat (first | exact Below.refl _ _ | refine below_alloc ?_ _ | refine below_then ?_ (by assumption))⟩
      · clear h
        go_enter Try.func3, Try.ntmps3
        go_wp2_with (first
          | (go_at_call 10; refine (With_any _ _ _ _ (by assumption)).mono ?_; rintro e w1 ⟨rfl, hb1⟩)
          | (go_at_call 12; refine (Has_any _ _ _ _ (by assumption)).mono ?_; rintro e w2 ⟨rfl, hb2⟩)
          | (go_at_call 13; refine (RHas_any _ _ _ _ (by assumption)).mono ?_; rintro e w3 ⟨rfl, hb3⟩)
          | (go_at_call 14; refine (RWith_any _ _ _ _ (by assumption)).mono ?_; rintro e w4 ⟨rfl, hb4⟩)
          | (go_at_call 15; refine (Drop_any _ _ _ (by assumption)).mono ?_; rintro e w5 ⟨rfl, hb5⟩)
          | (go_at_call 16; refine (RDrop_any _ _ _ (by assumption)).mono ?_; rintro e w6 ⟨rfl, hb6⟩)
          | (go_at_call 11; refine (alive_any _).mono ?_; rintro e w9 ⟨rfl, hb9⟩))
        go_ret
        exact ⟨rfl, by repeat (first | exact Below.refl _ _ | refine below_alloc ?_ _ | refine below_then ?_ (by assumption))⟩
    · clear h
      go_enter Try.func3, Try.ntmps3
      go_wp2_with (first
        | (go_at_call 10; refine (With_any _ _ _ _ (by assumption)).mono ?_; rintro e w1 ⟨rfl, hb1⟩)
        | (go_at_call 12; refine (Has_any _ _ _ _ (by assumption)).mono ?_; rintro e w2 ⟨rfl, hb2⟩)
        | (go_at_call 13; refine (RHas_any _ _ _ _ (by assumption)).mono ?_; rintro e w3 ⟨rfl, hb3⟩)
        | (go_at_call 14; refine (RWith_any _ _ _ _ (by assumption)).mono ?_; rintro e w4 ⟨rfl, hb4⟩)
        | (go_at_call 15; refine (Drop_any _ _ _ (by assumption)).mono ?_; rintro e w5 ⟨rfl, hb5⟩)
        | (go_at_call 16; refine (RDrop_any _ _ _ (by assumption)).mono ?_; rintro e w6 ⟨rfl, hb6⟩)
        | (go_at_call 11; refine (alive_any _).mono ?_; rintro e w9 ⟨rfl, hb9⟩))
      go_ret
      exact ⟨rfl, by repeat (first | exact Below.refl _ _ | refine below_alloc ?_ _ | refine below_then ?_ (by assumption))⟩
theorem MarkDrops_walk (x : Int) (wx : (Lit.int .u64 x).wf = true) (s : Int) (ws : (Lit.int .i64 s).wf = true) (w : World) :
    Calls Try.prog 4 #[.int .u64 x, .int .i64 s] w fun e w' => e = .returned (.bool true) ∧ Below w.heap.size w w' := by
  obtain ⟨h0, h1⟩ := u64_bd wx
  obtain ⟨x, rfl⟩ := Int.eq_ofNat_of_zero_le h0
  have hx : x < 18446744073709551616 := by omega
  clear wx ws h0 h1
  have hw := dropW_lt s hx
  have e1 := has_drop x (k := 0) (s := s) (by omega) (by omega)
  have e2 := has_drop x (k := 1) (s := s) (by omega) (by omega)
  go_enter Try.func4, Try.ntmps4
  go_wp2_with (first
    | (go_at_call 10; refine (With_any _ _ _ _ (by assumption)).mono ?_; rintro e w1 ⟨rfl, hb1⟩)
    | (go_at_call 12; refine (Has_any _ _ _ _ (by assumption)).mono ?_; rintro e w2 ⟨rfl, hb2⟩)
    | (go_at_call 13; refine (RHas_any _ _ _ _ (by assumption)).mono ?_; rintro e w3 ⟨rfl, hb3⟩)
    | (go_at_call 14; refine (RWith_any _ _ _ _ (by assumption)).mono ?_; rintro e w4 ⟨rfl, hb4⟩)
    | (go_at_call 15; refine (Drop_any _ _ _ (by assumption)).mono ?_; rintro e w5 ⟨rfl, hb5⟩)
    | (go_at_call 16; refine (RDrop_any _ _ _ (by assumption)).mono ?_; rintro e w6 ⟨rfl, hb6⟩)
    | (go_at_call 11; refine (alive_any _).mono ?_; rintro e w9 ⟨rfl, hb9⟩))
  go_ret
  exact ⟨rfl, by repeat (first | exact Below.refl _ _ | refine below_alloc ?_ _ | refine below_then ?_ (by assumption))⟩
theorem drop_same {x : Nat} {s : Int} (h0 : hasW x 0 s = false) (h1 : hasW x 1 s = false) : dropW x s = x := by
  unfold dropW
  by_cases h : 0 ≤ s ∧ s < 12
  · have a0 := of_some (k := 0) (s := s) (by omega)
    have a1 := of_some (k := 1) (s := s) (by omega)
    rw [has_some (by omega)] at h0 h1
    rw [a0.2, a1.2]
    generalize (12 * 0 + s).toNat = p at *
    generalize (12 * 1 + s).toNat = q at *
    clear a0 a1 h
    apply Nat.eq_of_testBit_eq
    intro i
    rw [testBit_clr, Nat.testBit_or, testBit_pow, testBit_pow]
    by_cases e0 : p = i
    · subst e0; simp [h0]
    · by_cases e1 : q = i
      · subst e1; simp [h1]
      · simp [e0, e1]
  · rw [(of_none (k := 0) (s := s) (by omega)).2, (of_none (k := 1) (s := s) (by omega)).2]
    simp [clr]
theorem drop_with {x : Nat} {k s : Int} (h0 : hasW x 0 s = false) (h1 : hasW x 1 s = false) : dropW (withW x k s) s = x := by
  have hd := drop_same h0 h1
  by_cases h : 0 ≤ k ∧ k ≤ 1 ∧ 0 ≤ s ∧ s < 12
  · have hs : dropW (withW x k s) s = dropW x s := by
      unfold dropW withW
      apply Nat.eq_of_testBit_eq
      intro i
      rw [testBit_clr, testBit_clr, Nat.testBit_or, Nat.testBit_or]
      rcases (by omega : k = 0 ∨ k = 1) with rfl | rfl <;> cases x.testBit i <;> cases (bitOf 0 s).testBit i <;> cases (bitOf 1 s).testBit i <;> rfl
    rw [hs, hd]
  · have hs : withW x k s = x := by unfold withW; rw [(of_none h).2]; simp
    rw [hs, hd]
theorem MarkBack_walk (x : Int) (wx : (Lit.int .u64 x).wf = true) (k : Int) (wk : (Lit.int .i64 k).wf = true) (s : Int) (ws : (Lit.int .i64 s).wf = true) (w : World) :
    Calls Try.prog 8 #[.int .u64 x, .int .i64 k, .int .i64 s] w fun e w' => e = .returned (.bool true) ∧ Below w.heap.size w w' := by
  obtain ⟨h0, h1⟩ := u64_bd wx
  obtain ⟨x, rfl⟩ := Int.eq_ofNat_of_zero_le h0
  have hx : x < 18446744073709551616 := by omega
  clear wx wk ws h0 h1
  have hw := withW_lt k s hx
  cases c0 : hasW x 0 s with
  | true =>
    go_enter Try.func8, Try.ntmps8
    go_wp2_with (first
      | (go_at_call 10; refine (With_any _ _ _ _ (by assumption)).mono ?_; rintro e w1 ⟨rfl, hb1⟩)
      | (go_at_call 12; refine (Has_any _ _ _ _ (by assumption)).mono ?_; rintro e w2 ⟨rfl, hb2⟩)
      | (go_at_call 13; refine (RHas_any _ _ _ _ (by assumption)).mono ?_; rintro e w3 ⟨rfl, hb3⟩)
      | (go_at_call 14; refine (RWith_any _ _ _ _ (by assumption)).mono ?_; rintro e w4 ⟨rfl, hb4⟩)
      | (go_at_call 15; refine (Drop_any _ _ _ (by assumption)).mono ?_; rintro e w5 ⟨rfl, hb5⟩)
      | (go_at_call 16; refine (RDrop_any _ _ _ (by assumption)).mono ?_; rintro e w6 ⟨rfl, hb6⟩)
      | (go_at_call 11; refine (alive_any _).mono ?_; rintro e w9 ⟨rfl, hb9⟩))
    go_ret
    exact ⟨rfl, by repeat (first | exact Below.refl _ _ | refine below_alloc ?_ _ | refine below_then ?_ (by assumption))⟩
  | false =>
    cases c1 : hasW x 1 s with
    | true =>
      go_enter Try.func8, Try.ntmps8
      go_wp2_with (first
        | (go_at_call 10; refine (With_any _ _ _ _ (by assumption)).mono ?_; rintro e w1 ⟨rfl, hb1⟩)
        | (go_at_call 12; refine (Has_any _ _ _ _ (by assumption)).mono ?_; rintro e w2 ⟨rfl, hb2⟩)
        | (go_at_call 13; refine (RHas_any _ _ _ _ (by assumption)).mono ?_; rintro e w3 ⟨rfl, hb3⟩)
        | (go_at_call 14; refine (RWith_any _ _ _ _ (by assumption)).mono ?_; rintro e w4 ⟨rfl, hb4⟩)
        | (go_at_call 15; refine (Drop_any _ _ _ (by assumption)).mono ?_; rintro e w5 ⟨rfl, hb5⟩)
        | (go_at_call 16; refine (RDrop_any _ _ _ (by assumption)).mono ?_; rintro e w6 ⟨rfl, hb6⟩)
        | (go_at_call 11; refine (alive_any _).mono ?_; rintro e w9 ⟨rfl, hb9⟩))
      go_ret
      exact ⟨rfl, by repeat (first | exact Below.refl _ _ | refine below_alloc ?_ _ | refine below_then ?_ (by assumption))⟩
    | false =>
      have e1 := drop_same c0 c1
      have e2 := drop_with (k := k) c0 c1
      go_enter Try.func8, Try.ntmps8
      go_wp2_with (first
        | (go_at_call 10; refine (With_any _ _ _ _ (by assumption)).mono ?_; rintro e w1 ⟨rfl, hb1⟩)
        | (go_at_call 12; refine (Has_any _ _ _ _ (by assumption)).mono ?_; rintro e w2 ⟨rfl, hb2⟩)
        | (go_at_call 13; refine (RHas_any _ _ _ _ (by assumption)).mono ?_; rintro e w3 ⟨rfl, hb3⟩)
        | (go_at_call 14; refine (RWith_any _ _ _ _ (by assumption)).mono ?_; rintro e w4 ⟨rfl, hb4⟩)
        | (go_at_call 15; refine (Drop_any _ _ _ (by assumption)).mono ?_; rintro e w5 ⟨rfl, hb5⟩)
        | (go_at_call 16; refine (RDrop_any _ _ _ (by assumption)).mono ?_; rintro e w6 ⟨rfl, hb6⟩)
        | (go_at_call 11; refine (alive_any _).mono ?_; rintro e w9 ⟨rfl, hb9⟩))
      go_ret
      exact ⟨rfl, by repeat (first | exact Below.refl _ _ | refine below_alloc ?_ _ | refine below_then ?_ (by assumption))⟩
end Go.Proofs.Ytepbnfekicdlpaa
