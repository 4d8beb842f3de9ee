/-
  The functions of the mark and of its reference, each under its contract.
-/
import Derived.Test.YtepbnfekicdlpaaProg
import Derived.Test.YtepbnfekicdlpaaKit
import Derived.Test.YtepbnfekicdlpaaBits
namespace Go.Proofs.Ytepbnfekicdlpaa
open Go.RowKit
set_option linter.unusedVariables false
set_option linter.unusedSimpArgs false
def plc (k s : Int) : Option Nat := if 0 ≤ k ∧ k ≤ 1 ∧ 0 ≤ s ∧ s < 12 then some (12 * k + s).toNat else none
def bitOf (k s : Int) : Nat := match plc k s with | some i => 2 ^ i | none => 0
theorem of_none {k s : Int} (h : ¬ (0 ≤ k ∧ k ≤ 1 ∧ 0 ≤ s ∧ s < 12)) : plc k s = none ∧ bitOf k s = 0 := by
  have e : plc k s = none := by unfold plc; rw [if_neg h]
  exact ⟨e, by unfold bitOf; rw [e]⟩
theorem of_some {k s : Int} (h : 0 ≤ k ∧ k ≤ 1 ∧ 0 ≤ s ∧ s < 12) : plc k s = some (12 * k + s).toNat ∧ bitOf k s = 2 ^ (12 * k + s).toNat := by
  have e : plc k s = some (12 * k + s).toNat := by unfold plc; rw [if_pos h]
  exact ⟨e, by unfold bitOf; rw [e]⟩
theorem wrap_cast (n : Nat) (h : n < 18446744073709551616) : IntKind.u64.wrap (n : Int) = (n : Int) := IntWalk.u64_in _ (by omega)
theorem wrap_pow (n : Nat) (h : n < 64) : IntKind.u64.wrap ((2 : Int) ^ n) = ((2 ^ n : Nat) : Int) := by
  have e : ((2 : Int) ^ n) = ((2 ^ n : Nat) : Int) := by simp
  rw [e]
  exact wrap_cast _ (lt_pow h)
theorem of_any (k s : Int) (w : World) :
    Calls Try.prog 21 #[.int .i64 k, .int .i64 s] w fun e w' => e = .returned (.int .u64 (bitOf k s)) ∧ Below w.heap.size w w' := by
  by_cases h : 0 ≤ k ∧ k ≤ 1 ∧ 0 ≤ s ∧ s < 12
  · obtain ⟨_, h0⟩ := of_some h
    obtain ⟨h1, h2, h3, h4⟩ := h
    by_cases c : k = 0
    · subst c
      have hp := wrap_pow s.toNat (by omega)
      have hp2 := wrap_cast (2 ^ s.toNat) (lt_pow (by omega))
      have hfin : Hid (((2 ^ s.toNat : Nat) : Int) = ((bitOf 0 s : Nat) : Int)) := by
        show _ = _
        rw [h0]; simp
      clear h0 h1 h2
      go_enter Try.func21, Try.ntmps21
      go_wp2
      go_ret
      exact ⟨by rw [← hfin.out]; simp, Below.refl _ _⟩
    · obtain rfl : k = 1 := by omega
      have hp := wrap_pow s.toNat (by omega)
      have hlt : 2 ^ s.toNat * 4096 < 18446744073709551616 := by
        have : 2 ^ s.toNat ≤ 2 ^ 11 := Nat.pow_le_pow_right (by omega) (by omega)
        omega
      have hp2 := wrap_cast (2 ^ s.toNat * 4096) hlt
      have hfin : Hid (((2 ^ s.toNat * 4096 : Nat) : Int) = ((bitOf 1 s : Nat) : Int)) := by
        show _ = _
        rw [h0, show (12 * 1 + s).toNat = s.toNat + 12 by omega, Nat.pow_add]
      clear h0 h1 h2 c hlt
      go_enter Try.func21, Try.ntmps21
      go_wp2
      go_ret
      exact ⟨by rw [← hfin.out]; simp at hp2 ⊢; rw [hp2], Below.refl _ _⟩
  · rw [(of_none h).2]
    by_cases c0 : k = 0
    · subst c0
      by_cases c1 : s < 0
      · clear h
        go_enter Try.func21, Try.ntmps21
        go_wp2
        go_ret
        exact ⟨rfl, Below.refl _ _⟩
      · have c2 : 12 ≤ s := by omega
        clear h
        go_enter Try.func21, Try.ntmps21
        go_wp2
        go_ret
        exact ⟨rfl, Below.refl _ _⟩
    · have n0 : (k != 0) = true := by simpa using c0
      by_cases c3 : k = 1
      · subst c3
        by_cases c1 : s < 0
        · clear h
          go_enter Try.func21, Try.ntmps21
          go_wp2
          go_ret
          exact ⟨rfl, Below.refl _ _⟩
        · have c2 : 12 ≤ s := by omega
          clear h
          go_enter Try.func21, Try.ntmps21
          go_wp2
          go_ret
          exact ⟨rfl, Below.refl _ _⟩
      · have n1 : (k != 1) = true := by simpa using c3
        clear h c0 c3
        go_enter Try.func21, Try.ntmps21
        go_wp2
        go_ret
        exact ⟨rfl, Below.refl _ _⟩
theorem bitOf_lt (k s : Int) : bitOf k s < 18446744073709551616 := by
  by_cases h : 0 ≤ k ∧ k ≤ 1 ∧ 0 ≤ s ∧ s < 12
  · rw [(of_some h).2]; exact lt_pow (by omega)
  · rw [(of_none h).2]; omega
def withW (w : Nat) (k s : Int) : Nat := w ||| bitOf k s
def hasW (w : Nat) (k s : Int) : Bool := match plc k s with | some i => w.testBit i | none => false
def dropW (w : Nat) (s : Int) : Nat := clr w (bitOf 0 s ||| bitOf 1 s)
theorem hasW_and (w : Nat) (k s : Int) : decide (0 < w &&& bitOf k s) = hasW w k s := by
  by_cases h : 0 ≤ k ∧ k ≤ 1 ∧ 0 ≤ s ∧ s < 12
  · unfold hasW; rw [(of_some h).2, (of_some h).1]; exact and_pow_pos _ _
  · unfold hasW; rw [(of_none h).2, (of_none h).1]; simp
theorem With_any (x : Nat) (k s : Int) (w : World) (hx : x < 18446744073709551616) :
    Calls Try.prog 10 #[.int .u64 x, .int .i64 k, .int .i64 s] w fun e w' => e = .returned (.int .u64 (withW x k s)) ∧ Below w.heap.size w w' := by
  have hg := go_or x (bitOf k s) hx (bitOf_lt k s)
  go_enter Try.func10, Try.ntmps10
  go_wp2_with (go_at_call 21; refine (of_any _ _ _).mono ?_; rintro e w1 ⟨rfl, hb1⟩)
  go_ret
  exact ⟨rfl, below_then (Below.refl _ _) hb1⟩
theorem Has_any (x : Nat) (k s : Int) (w : World) (hx : x < 18446744073709551616) :
    Calls Try.prog 12 #[.int .u64 x, .int .i64 k, .int .i64 s] w fun e w' => e = .returned (.bool (hasW x k s)) ∧ Below w.heap.size w w' := by
  have hg := go_and x (bitOf k s) hx (bitOf_lt k s)
  have hh : Hid (decide (0 < x &&& bitOf k s) = hasW x k s) := hasW_and x k s
  go_enter Try.func12, Try.ntmps12
  go_wp2_with (go_at_call 21; refine (of_any _ _ _).mono ?_; rintro e w1 ⟨rfl, hb1⟩)
  go_ret
  exact ⟨by rw [← hh.out]; simp, below_then (Below.refl _ _) hb1⟩
theorem Drop_any (x : Nat) (s : Int) (w : World) (hx : x < 18446744073709551616) :
    Calls Try.prog 15 #[.int .u64 x, .int .i64 s] w fun e w' => e = .returned (.int .u64 (dropW x s)) ∧ Below w.heap.size w w' := by
  have hg := go_or (bitOf 0 s) (bitOf 1 s) (bitOf_lt _ _) (bitOf_lt _ _)
  have hg2 := go_clr x (bitOf 0 s ||| bitOf 1 s) hx (lt_or (bitOf_lt _ _) (bitOf_lt _ _))
  go_enter Try.func15, Try.ntmps15
  go_wp2_with (go_at_call 21; refine (of_any _ _ _).mono ?_; rintro e w1 ⟨rfl, hb1⟩)
  go_ret
  exact ⟨rfl, by repeat (first | exact Below.refl _ _ | refine below_then ?_ (by assumption))⟩
end Go.Proofs.Ytepbnfekicdlpaa
