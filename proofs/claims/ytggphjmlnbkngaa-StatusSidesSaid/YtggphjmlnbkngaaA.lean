/-
  The functions of the status that need no parts of words, and those of its reference, each under its contract.
-/
import Derived.Test.YtggphjmlnbkngaaProg
import Derived.Test.YtggphjmlnbkngaaKit
import Derived.Test.YtggphjmlnbkngaaBits
import Derived.Test.YtggphjmlnbkngaaRefBits
namespace Go.Proofs.Ytggphjmlnbkngaa
open Go.RowKit
set_option linter.unusedVariables false
set_option linter.unusedSimpArgs false
theorem Hid.mk' {p : Prop} (h : p) : Hid p := h
def plc (k s : Int) : Option Nat := if 0 ≤ k ∧ k ≤ 1 ∧ 0 ≤ s ∧ s < 12 then some (12 * k + s).toNat else none
def bitOf (k s : Int) : Nat := match plc k s with | some i => 2 ^ i | none => 0
theorem of_none {k s : Int} (h : ¬ (0 ≤ k ∧ k ≤ 1 ∧ 0 ≤ s ∧ s < 12)) : plc k s = none ∧ bitOf k s = 0 := by
  have e : plc k s = none := by unfold plc; rw [if_neg h]
  exact ⟨e, by unfold bitOf; rw [e]⟩
theorem of_some {k s : Int} (h : 0 ≤ k ∧ k ≤ 1 ∧ 0 ≤ s ∧ s < 12) : plc k s = some (12 * k + s).toNat ∧ bitOf k s = 2 ^ (12 * k + s).toNat := by
  have e : plc k s = some (12 * k + s).toNat := by unfold plc; rw [if_pos h]
  exact ⟨e, by unfold bitOf; rw [e]⟩
theorem wrap_cast (n : Nat) (h : n < 18446744073709551616) : IntKind.u64.wrap (n : Int) = (n : Int) := IntWalk.u64_in _ (by omega)
theorem wrap_pow (n : Nat) (h : n < 64) : IntKind.u64.wrap ((2 : Int) ^ n) = ((2 ^ n : Nat) : Int) := by
  have e : ((2 : Int) ^ n) = ((2 ^ n : Nat) : Int) := by simp
  rw [e]
  exact wrap_cast _ (lt_pow h)
theorem bitOf_lt (k s : Int) : bitOf k s < 18446744073709551616 := by
  by_cases h : 0 ≤ k ∧ k ≤ 1 ∧ 0 ≤ s ∧ s < 12
  · rw [(of_some h).2]; exact lt_pow (by omega)
  · rw [(of_none h).2]; omega
theorem of_any (k s : Int) (w : World) :
    Calls Try.prog 32 #[.int .i64 k, .int .i64 s] w fun e w' => e = .returned (.int .u64 (bitOf k s)) ∧ Below w.heap.size w w' := by
  by_cases h : 0 ≤ k ∧ k ≤ 1 ∧ 0 ≤ s ∧ s < 12
  · obtain ⟨_, h0⟩ := of_some h
    obtain ⟨h1, h2, h3, h4⟩ := h
    have hp := wrap_pow (12 * k + s).toNat (by omega)
    have hp' := wrap_pow (k * 12 + s).toNat (by omega)
    have hp2 := wrap_cast (2 ^ (k * 12 + s).toNat) (lt_pow (by omega))
    have hfin : Hid (((2 ^ (k * 12 + s).toNat : Nat) : Int) = ((bitOf k s : Nat) : Int)) := by
      show _ = _
      rw [h0, show k * 12 + s = 12 * k + s by omega]
    have h5 : 0 ≤ k * 12 + s := by omega
    have h6 : k * 12 + s < 24 := by omega
    clear h0
    go_enter Try.func32, Try.ntmps32
    go_wp2
    go_ret
    exact ⟨by rw [← hfin.out]; simp, Below.refl _ _⟩
  · rw [(of_none h).2]
    by_cases c1 : k < 0
    · clear h
      go_enter Try.func32, Try.ntmps32
      go_wp2
      go_ret
      exact ⟨rfl, Below.refl _ _⟩
    · by_cases c2 : 1 < k
      · clear h
        go_enter Try.func32, Try.ntmps32
        go_wp2
        go_ret
        exact ⟨rfl, Below.refl _ _⟩
      · by_cases c3 : s < 0
        · clear h
          go_enter Try.func32, Try.ntmps32
          go_wp2
          go_ret
          exact ⟨rfl, Below.refl _ _⟩
        · have c4 : 12 ≤ s := by omega
          clear h
          go_enter Try.func32, Try.ntmps32
          go_wp2
          go_ret
          exact ⟨rfl, Below.refl _ _⟩
def withW (w : Nat) (k s : Int) : Nat := w ||| bitOf k s
def hasW (w : Nat) (k s : Int) : Bool := match plc k s with | some i => w.testBit i | none => false
theorem hasW_and (w : Nat) (k s : Int) : decide (0 < w &&& bitOf k s) = hasW w k s := by
  by_cases h : 0 ≤ k ∧ k ≤ 1 ∧ 0 ≤ s ∧ s < 12
  · unfold hasW; rw [(of_some h).2, (of_some h).1]; exact and_pow_pos _ _
  · unfold hasW; rw [(of_none h).2, (of_none h).1]; simp
theorem With_any (x : Nat) (k s : Int) (w : World) (hx : x < 18446744073709551616) :
    Calls Try.prog 17 #[.int .u64 x, .int .i64 k, .int .i64 s] w fun e w' => e = .returned (.int .u64 (withW x k s)) ∧ Below w.heap.size w w' := by
  have hg := go_or x (bitOf k s) hx (bitOf_lt k s)
  go_enter Try.func17, Try.ntmps17
  go_wp2_with (go_at_call 32; refine (of_any _ _ _).mono ?_; rintro e w1 ⟨rfl, hb1⟩)
  go_ret
  exact ⟨rfl, below_then (Below.refl _ _) hb1⟩
theorem Has_any (x : Nat) (k s : Int) (w : World) (hx : x < 18446744073709551616) :
    Calls Try.prog 18 #[.int .u64 x, .int .i64 k, .int .i64 s] w fun e w' => e = .returned (.bool (hasW x k s)) ∧ Below w.heap.size w w' := by
  have hg := go_and x (bitOf k s) hx (bitOf_lt k s)
  have hh : Hid ((((x &&& bitOf k s : Nat) : Int) != 0) = hasW x k s) := by
    show _ = _
    rw [← hasW_and]
    generalize x &&& bitOf k s = q
    rw [Bool.eq_iff_iff]
    simp
    omega
  go_enter Try.func18, Try.ntmps18
  go_wp2_with (go_at_call 32; refine (of_any _ _ _).mono ?_; rintro e w1 ⟨rfl, hb1⟩)
  go_ret
  exact ⟨by rw [← hh.out]; simp, below_then (Below.refl _ _) hb1⟩
theorem at_yes (k s : Int) (w : World) (h1 : 0 ≤ k) (h2 : k ≤ 1) (h3 : 0 ≤ s) (h4 : s < 12) :
    Calls Try.prog 33 #[.int .i64 k, .int .i64 s] w fun e w' => e = .returned (.int .i64 (12 * k + s)) ∧ Below w.heap.size w w' := by
  go_enter Try.func33, Try.ntmps33
  go_wp2
  go_ret
  exact ⟨rfl, Below.refl _ _⟩
theorem at_no (k s : Int) (w : World) (h : ¬ (0 ≤ k ∧ k ≤ 1 ∧ 0 ≤ s ∧ s < 12)) :
    Calls Try.prog 33 #[.int .i64 k, .int .i64 s] w fun e w' => e = .returned (.int .i64 (-1)) ∧ Below w.heap.size w w' := by
  by_cases c1 : k < 0
  · clear h
    go_enter Try.func33, Try.ntmps33
    go_wp2
    go_ret
    exact ⟨rfl, Below.refl _ _⟩
  · by_cases c2 : 1 < k
    · clear h
      go_enter Try.func33, Try.ntmps33
      go_wp2
      go_ret
      exact ⟨rfl, Below.refl _ _⟩
    · by_cases c3 : s < 0
      · clear h
        go_enter Try.func33, Try.ntmps33
        go_wp2
        go_ret
        exact ⟨rfl, Below.refl _ _⟩
      · have c4 : 11 < s := by omega
        clear h
        go_enter Try.func33, Try.ntmps33
        go_wp2
        go_ret
        exact ⟨rfl, Below.refl _ _⟩
/-- Bit and Put at a place that is given as an Int. -/
theorem Bit_at (x : Nat) (p : Int) (w : World) (hx : x < 18446744073709551616) (h0 : 0 ≤ p) (h1 : p < 64) :
    Calls Try.prog 31 #[.int .u64 (x : Int), .int .i64 p] w fun e w' => e = .returned (.bool (x.testBit p.toNat)) ∧ Below w.heap.size w w' := by
  obtain ⟨n, rfl⟩ := Int.eq_ofNat_of_zero_le h0
  exact Bit_any x n w hx (by omega)
theorem Put_at (x : Nat) (p : Int) (b : Bool) (w : World) (hx : x < 18446744073709551616) (h0 : 0 ≤ p) (h1 : p < 64) :
    Calls Try.prog 27 #[.int .u64 (x : Int), .int .i64 p, .bool b] w fun e w' => e = .returned (.int .u64 (putW x p.toNat b : Int)) ∧ Below w.heap.size w w' := by
  obtain ⟨n, rfl⟩ := Int.eq_ofNat_of_zero_le h0
  exact Put_any x n b w hx (by omega)
theorem RHas_any (x : Nat) (k s : Int) (w : World) (hx : x < 18446744073709551616) :
    Calls Try.prog 19 #[.int .u64 x, .int .i64 k, .int .i64 s] w fun e w' => e = .returned (.bool (hasW x k s)) ∧ Below w.heap.size w w' := by
  by_cases h : 0 ≤ k ∧ k ≤ 1 ∧ 0 ≤ s ∧ s < 12
  · have e : hasW x k s = x.testBit (12 * k + s).toNat := by unfold hasW; rw [(of_some h).1]
    obtain ⟨h1, h2, h3, h4⟩ := h
    rw [e]
    clear e
    have h5 : 0 ≤ 12 * k + s := by omega
    go_enter Try.func19, Try.ntmps19
    go_wp2_with (first | (go_at_call 33; refine (at_yes _ _ _ h1 h2 h3 h4).mono ?_; rintro e w1 ⟨rfl, hb1⟩) | (go_at_call 31; refine (Bit_at _ _ _ hx (by omega) (by omega)).mono ?_; rintro e w2 ⟨rfl, hb2⟩))
    go_ret
    exact ⟨rfl, by repeat (first | exact Below.refl _ _ | refine below_then ?_ (by assumption))⟩
  · have e : hasW x k s = false := by unfold hasW; rw [(of_none h).1]
    rw [e]
    clear e
    go_enter Try.func19, Try.ntmps19
    go_wp2_with (first | (go_at_call 33; refine (at_no _ _ _ h).mono ?_; rintro e w1 ⟨rfl, hb1⟩))
    go_ret
    exact ⟨rfl, by repeat (first | exact Below.refl _ _ | refine below_then ?_ (by assumption))⟩
theorem RWith_any (x : Nat) (k s : Int) (w : World) (hx : x < 18446744073709551616) :
    Calls Try.prog 20 #[.int .u64 x, .int .i64 k, .int .i64 s] w fun e w' => e = .returned (.int .u64 (withW x k s)) ∧ Below w.heap.size w w' := by
  by_cases h : 0 ≤ k ∧ k ≤ 1 ∧ 0 ≤ s ∧ s < 12
  · have e : withW x k s = putW x (12 * k + s).toNat true := by unfold withW; rw [(of_some h).2]; rfl
    obtain ⟨h1, h2, h3, h4⟩ := h
    rw [e]
    clear e
    have h5 : 0 ≤ 12 * k + s := by omega
    go_enter Try.func20, Try.ntmps20
    go_wp2_with (first | (go_at_call 33; refine (at_yes _ _ _ h1 h2 h3 h4).mono ?_; rintro e w1 ⟨rfl, hb1⟩) | (go_at_call 27; refine (Put_at _ _ _ _ hx (by omega) (by omega)).mono ?_; rintro e w2 ⟨rfl, hb2⟩))
    go_ret
    exact ⟨rfl, by repeat (first | exact Below.refl _ _ | refine below_then ?_ (by assumption))⟩
  · have e : withW x k s = x := by unfold withW; rw [(of_none h).2]; simp
    rw [e]
    clear e
    go_enter Try.func20, Try.ntmps20
    go_wp2_with (first | (go_at_call 33; refine (at_no _ _ _ h).mono ?_; rintro e w1 ⟨rfl, hb1⟩))
    go_ret
    exact ⟨rfl, by repeat (first | exact Below.refl _ _ | refine below_then ?_ (by assumption))⟩
theorem bit_any (b : Bool) (w : World) : Calls Try.prog 25 #[.bool b] w fun e w' => e = .returned (.int .u64 (if b then 1 else 0)) ∧ Below w.heap.size w w' := by
  cases b
  · go_enter Try.func25, Try.ntmps25
    go_wp2
    go_ret
    exact ⟨rfl, Below.refl _ _⟩
  · go_enter Try.func25, Try.ntmps25
    go_wp2
    go_ret
    exact ⟨rfl, Below.refl _ _⟩
/-- So many bits of a word, from a place on. -/
def numW (x f m : Nat) : Nat := x / pw f % pw m
theorem numW_lt (x f m : Nat) : numW x f m < pw m := Nat.mod_lt _ (Nat.two_pow_pos m)
end Go.Proofs.Ytggphjmlnbkngaa
