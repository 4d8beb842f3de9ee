/-
  The reference's parts of words, and whether a side has any: each under its contract.
-/
import Derived.Test.YtggphjmlnbkngaaC
namespace Go.Proofs.Ytggphjmlnbkngaa
open Go.RowKit
set_option linter.unusedVariables false
set_option linter.unusedSimpArgs false
theorem number_any (x f m : Nat) (w : World) (hx : x < 18446744073709551616) (hf : f < 64) (hm : m < 33) :
    Calls Try.prog 30 #[.int .u64 (x : Int), .int .i64 (f : Int), .int .i64 (m : Int)] w fun e w' => e = .returned (.int .i64 (numW x f m : Int)) ∧ Below w.heap.size w w' := by
  have h1 : (1 : Int) ≤ (pw f : Int) := by have := pw_pos f; omega
  have h2 : (1 : Int) ≤ (pw m : Int) := by have := pw_pos m; omega
  have h3 : (pw m : Int) ≤ 4294967296 := by
    have : pw m ≤ 2 ^ 32 := Nat.pow_le_pow_right (by omega) (by omega)
    omega
  have h4 : (pw f : Int) ≤ 18446744073709551615 := by have := pw_lt hf; omega
  have h5 : 0 ≤ (x : Int) / (pw f : Int) := Int.ediv_nonneg (by omega) (by omega)
  have h6 : (x : Int) / (pw f : Int) ≤ 18446744073709551615 := Int.le_trans (Int.ediv_le_self _ (by omega)) (by omega)
  have h7 : 0 ≤ (x : Int) / (pw f : Int) % (pw m : Int) := Int.emod_nonneg _ (by omega)
  have h8 : (x : Int) / (pw f : Int) % (pw m : Int) < (pw m : Int) := Int.emod_lt_of_pos _ (by omega)
  have hfin : Hid ((x : Int) / (pw f : Int) % (pw m : Int) = ((numW x f m : Nat) : Int)) := by
    show _ = _
    unfold numW
    rw [Int.natCast_emod, Int.natCast_ediv]
  go_enter Try.func30, Try.ntmps30
  go_wp2_with fail
  refine wp_region_quiet_below (by kernel_rfl) (by kernel_rfl) ?_
  repeat (go_big_quiet_step (first | (go_at_call 26; exact quiet_call (Power_any _ _ (by assumption))) | (go_at_call 26; exact quiet_call (Power_any _ _ (by omega)))))
  refine wpQuiet_nil ?_
  rintro w3 ⟨r3, rfl⟩
  go_wp2
  go_ret
  exact ⟨by rw [← hfin.out]; simp, below_regrow (Below.refl _ _) _ _⟩
theorem number_lit (x : Nat) (f m : Int) (w : World) (hx : x < 18446744073709551616) (hf : 0 ≤ f) (hf' : f < 64) (hm : 0 ≤ m) (hm' : m < 33) :
    Calls Try.prog 30 #[.int .u64 (x : Int), .int .i64 f, .int .i64 m] w fun e w' => e = .returned (.int .i64 (numW x f.toNat m.toNat : Int)) ∧ Below w.heap.size w w' := by
  obtain ⟨a, rfl⟩ := Int.eq_ofNat_of_zero_le hf
  obtain ⟨b, rfl⟩ := Int.eq_ofNat_of_zero_le hm
  exact number_any x a b w hx (by omega) (by omega)
theorem RUnpack_any (x : Nat) (w : World) (hx : x < 18446744073709551616) : Calls Try.prog 14 #[.int .u64 (x : Int)] w fun e w' => e = .returned (.agg (partsV x)) ∧ Below w.heap.size w w' := by
  have HB := Below.refl (w.alloc (.cells #[.int .i64 0, .int .i64 0, .bool false, .bool false, .bool false, .int .i64 0, .int .i64 0] 23)).heap.size (w.alloc (.cells #[.int .i64 0, .int .i64 0, .bool false, .bool false, .bool false, .int .i64 0, .int .i64 0] 23))
  go_enter Try.func14, Try.ntmps14
  go_wp2_with (first
    | (go_at_call 30; (with_reducible refine (number_lit _ _ _ _ hx (by omega) (by omega) (by omega) (by omega)).mono ?_); rintro e w1 ⟨rfl, hb1⟩; have HC := below_then HB hb1; clear HB hb1; have HB := HC; clear HC; (try clear hc1 hf1); obtain ⟨hc1, hf1⟩ := bcell HB)
    | (go_at_call 31; (with_reducible refine (Bit_at _ _ _ hx (by omega) (by omega)).mono ?_); rintro e w1 ⟨rfl, hb1⟩; have HC := below_then HB hb1; clear HB hb1; have HB := HC; clear HC; (try clear hc1 hf1); obtain ⟨hc1, hf1⟩ := bcell HB))
  refine bodyPost_ret (results_cell_row rfl _ _ w.heap.size 23 (partsV x) (0, 0) _ rfl ?_ Try.underlying23 rfl (by kernel_rfl)) rfl ⟨rfl, ?_⟩
  · exact blk_put (blk_put (blk_put (blk_put (blk_put (blk_put (blk_put (blk_below (blk_new _ _) HB) 0 _ rfl) 1 _ rfl) 2 _ rfl) 3 _ rfl) 4 _ rfl) 5 _ rfl) 6 _ rfl
  · exact below_set (below_set (below_set (below_set (below_set (below_set (below_set (below_then (below_alloc (Below.refl _ _) _) HB) (Nat.le_refl _) _) (Nat.le_refl _) _) (Nat.le_refl _) _) (Nat.le_refl _) _) (Nat.le_refl _) _) (Nat.le_refl _) _) (Nat.le_refl _) _
/-- Whether a side has any. -/
def anyW (x : Nat) (k : Int) : Bool := if 0 ≤ k ∧ k ≤ 1 then decide (numW x (12 * k).toNat 12 ≠ 0) || x.testBit (24 + k).toNat else false
theorem any_no {x : Nat} {k : Int} (h : ¬ (0 ≤ k ∧ k ≤ 1)) : anyW x k = false := by unfold anyW; rw [if_neg h]
theorem any_yes {x : Nat} {k : Int} (h : 0 ≤ k ∧ k ≤ 1) : anyW x k = (decide (numW x (12 * k).toNat 12 ≠ 0) || x.testBit (24 + k).toNat) := by unfold anyW; rw [if_pos h]
theorem RAny_any (x : Nat) (k : Int) (w : World) (hx : x < 18446744073709551616) : Calls Try.prog 22 #[.int .u64 (x : Int), .int .i64 k] w fun e w' => e = .returned (.bool (anyW x k)) ∧ Below w.heap.size w w' := by
  by_cases h : 0 ≤ k ∧ k ≤ 1
  · rw [any_yes h]
    obtain ⟨h1, h2⟩ := h
    have h3 : 0 ≤ 12 * k := by omega
    have h4 : 0 ≤ 24 + k := by omega
    generalize hf : (12 * k).toNat = f at *
    generalize hp : (24 + k).toNat = p at *
    have e1 : 12 * k = (f : Int) := by omega
    have e2 : 24 + k = (p : Int) := by omega
    have hf2 : f < 64 := by omega
    have hp2 : p < 64 := by omega
    have E1 := Hid.mk' e1
    have E2 := Hid.mk' e2
    clear e1 e2
    by_cases hz : numW x f 12 = 0
    · rw [hz]
      clear hf hp
      go_enter Try.func22, Try.ntmps22
      go_wp2_with (first
        | (go_at_call 30; rw [E1.out]; refine (number_any x f 12 _ hx hf2 (by omega)).mono ?_; rintro e w1 ⟨rfl, hb1⟩; rw [hz])
        | (go_at_call 31; rw [E2.out]; refine (Bit_any x p _ hx hp2).mono ?_; rintro e w2 ⟨rfl, hb2⟩))
      go_ret
      exact ⟨rfl, below_then hb1 hb2⟩
    · have hz1 : 0 < numW x f 12 := by omega
      rw [decide_eq_true hz]
      generalize hq : numW x f 12 = q at *
      have HQ := Hid.mk' hq
      clear hf hp hz hq
      go_enter Try.func22, Try.ntmps22
      go_wp2_with (first
        | (go_at_call 30; rw [E1.out]; refine (number_any x f 12 _ hx hf2 (by omega)).mono ?_; rintro e w1 ⟨rfl, hb1⟩; rw [HQ.out])
        | (go_at_call 31; rw [E2.out]; refine (Bit_any x p _ hx hp2).mono ?_; rintro e w2 ⟨rfl, hb2⟩))
      go_ret
      exact ⟨rfl, hb1⟩
  · rw [any_no h]
    by_cases c1 : k < 0
    · clear h
      go_enter Try.func22, Try.ntmps22
      go_wp2
      go_ret
      exact ⟨rfl, Below.refl _ _⟩
    · have c2 : 1 < k := by omega
      clear h
      go_enter Try.func22, Try.ntmps22
      go_wp2
      go_ret
      exact ⟨rfl, Below.refl _ _⟩
end Go.Proofs.Ytggphjmlnbkngaa
