/-
  The walks of the laws MarkSlots and MarkOthers.
-/
import Derived.Test.YtepbnfekicdlpaaG
namespace Go.Proofs.Ytepbnfekicdlpaa
open Go.RowKit
set_option linter.unusedVariables false
set_option linter.unusedSimpArgs false
theorem MarkSlots_walk (x : Int) (wx : (Lit.int .u64 x).wf = true) (k : Int) (wk : (Lit.int .i64 k).wf = true) (s : Int) (ws : (Lit.int .i64 s).wf = true) (w : World) :
    Calls Try.prog 5 #[.int .u64 x, .int .i64 k, .int .i64 s] w fun e w' => e = .returned (.bool true) ∧ Below w.heap.size w w' := by
  obtain ⟨h0, h1⟩ := u64_bd wx
  obtain ⟨x, rfl⟩ := Int.eq_ofNat_of_zero_le h0
  have hx : x < 18446744073709551616 := by omega
  clear wx wk ws h0 h1
  go_enter Try.func5, Try.ntmps5
  go_wp2_with fail
  refine (alive_any _).mono ?_; rintro e w1 ⟨rfl, hb1⟩
  go_wp2_with fail
  refine (Slots_any x k _ hx).mono ?_; rintro e w2 ⟨a2, c2, rfl, hi2, hb2⟩
  go_wp2_with fail
  refine (ROthers_any x k (-1) _ hx).mono ?_; rintro e w3 ⟨a3, c3, rfl, hi3, hb3⟩
  go_wp2_with fail
  refine (Same_yes _ _ _ _ _ _ (isInts_below hi2 hb3) hi3).mono ?_; rintro e w4 ⟨rfl, hb4⟩
  go_wp2_with fail
  refine (Others_any x k s _ hx).mono ?_; rintro e w5 ⟨a5, c5, rfl, hi5, hb5⟩
  go_wp2_with fail
  refine (ROthers_any x k s _ hx).mono ?_; rintro e w6 ⟨a6, c6, rfl, hi6, hb6⟩
  go_wp2_with fail
  refine (Same_yes _ _ _ _ _ _ (isInts_below hi5 hb6) hi6).mono ?_; rintro e w7 ⟨rfl, hb7⟩
  go_wp2_with fail
  go_ret
  exact ⟨rfl, below_then (below_then (below_then (below_then (below_then (below_then hb1 hb2) hb3) hb4) hb5) hb6) hb7⟩
theorem has_other_with (x : Nat) {k s j o : Int} (h : o ≠ s) : hasW (withW x k s) j o = hasW x j o := by
  by_cases c : 0 ≤ j ∧ j ≤ 1 ∧ 0 ≤ o ∧ o < 12
  · rw [has_some c, has_some c]
    unfold withW
    rw [Nat.testBit_or]
    by_cases c2 : 0 ≤ k ∧ k ≤ 1 ∧ 0 ≤ s ∧ s < 12
    · rw [(of_some c2).2, testBit_pow]
      have : (12 * k + s).toNat ≠ (12 * j + o).toNat := by omega
      simp [this]
    · rw [(of_none c2).2]; simp
  · rw [has_none _ c, has_none _ c]
theorem has_other_drop (x : Nat) {s j o : Int} (h : o ≠ s) : hasW (dropW x s) j o = hasW x j o := by
  by_cases c : 0 ≤ j ∧ j ≤ 1 ∧ 0 ≤ o ∧ o < 12
  · rw [has_some c, has_some c]
    unfold dropW
    rw [testBit_clr, Nat.testBit_or]
    by_cases c2 : 0 ≤ s ∧ s < 12
    · rw [(of_some (k := 0) (s := s) (by omega)).2, (of_some (k := 1) (s := s) (by omega)).2, testBit_pow, testBit_pow]
      have h1 : (12 * 0 + s).toNat ≠ (12 * j + o).toNat := by omega
      have h2 : (12 * 1 + s).toNat ≠ (12 * j + o).toNat := by omega
      simp only [decide_eq_false h1, decide_eq_false h2]
      simp
    · rw [(of_none (k := 0) (s := s) (by omega)).2, (of_none (k := 1) (s := s) (by omega)).2]; simp
  · rw [has_none _ c, has_none _ c]
theorem MarkOthers_walk (x : Int) (wx : (Lit.int .u64 x).wf = true) (k s : Int) (wk : (Lit.int .i64 k).wf = true) (ws : (Lit.int .i64 s).wf = true) (o : Int) (wo : (Lit.int .i64 o).wf = true) (w : World) :
    Calls Try.prog 6 #[.int .u64 x, .agg #[.int .i64 k, .int .i64 s], .int .i64 o] w fun e w' => e = .returned (.bool true) ∧ Below w.heap.size w w' := by
  obtain ⟨h0, h1⟩ := u64_bd wx
  obtain ⟨x, rfl⟩ := Int.eq_ofNat_of_zero_le h0
  have hx : x < 18446744073709551616 := by omega
  clear wx wk ws wo h0 h1
  by_cases c : o = s
  · subst c
    go_enter Try.func6, Try.ntmps6
    go_wp2_with fail
    go_quiet (fail)
    go_wp2_with (go_at_call 11; refine (alive_any _).mono ?_; rintro e w1 ⟨rfl, hb1⟩)
    go_ret
    exact ⟨rfl, below_then (below_drewN (below_alloc (Below.refl _ _) _) _) hb1⟩
  · have hc : (o == s) = false := by simpa using c
    have hw := withW_lt k s hx
    have hd := dropW_lt s hx
    have e1 : ∀ j, hasW (withW x k s) j o = hasW x j o := fun j => has_other_with x c
    have e2 : ∀ j, hasW (dropW x s) j o = hasW x j o := fun j => has_other_drop x c
    clear c
    go_enter Try.func6, Try.ntmps6
    go_wp2_with fail
    go_quiet (fail)
    go_wp2_with (first | (go_at_call 10; refine (With_any _ _ _ _ (by assumption)).mono ?_; rintro e w1 ⟨rfl, hb1⟩) | (go_at_call 15; refine (Drop_any _ _ _ (by assumption)).mono ?_; rintro e w2 ⟨rfl, hb2⟩))
    go_loopw [27] (fun i wr => ∃ m : Nat, m ≤ 2 ∧ i = .int .i64 (m : Int) ∧ Below w.heap.size w wr) (fun i _ => 2 - (intOf i).toNat)
    case atStart => exact ⟨0, by omega, rfl, below_then (below_then (below_drewN (below_alloc (Below.refl _ _) _) _) hb1) hb2⟩
    case round =>
      obtain ⟨m, hm, rfl, hB⟩ := hrel
      clear hb1 hb2
      by_cases hlt : m < 2
      · go_wp2_with (go_at_call 12; refine (Has_any _ _ _ _ (by assumption)).mono ?_; rintro e w3 ⟨rfl, hb3⟩)
        go_roundw
        case rel => exact ⟨m + 1, by omega, by go_num, by repeat (first | assumption | refine below_then ?_ (by assumption))⟩
        case measure => simp [intOf]; omega
      · obtain rfl : m = 2 := by omega
        go_wp2_with (go_at_call 11; refine (alive_any _).mono ?_; rintro e w4 ⟨rfl, hb4⟩)
        go_ret
        exact ⟨rfl, below_then hB hb4⟩
end Go.Proofs.Ytepbnfekicdlpaa
