/-
  Move, the status's and the reference's, each under its contract.
-/
import Derived.Test.YtggphjmlnbkngaaG
namespace Go.Proofs.Ytggphjmlnbkngaa
open Go.RowKit
set_option linter.unusedVariables false
set_option linter.unusedSimpArgs false
/-- A word of another state. -/
def moveN (x S : Nat) (b : Bool) : Nat := 1073741824 * (x / 1073741824) + 134217728 * S + 67108864 * bt b + x % 67108864
theorem moveN_lt {x S : Nat} (b : Bool) (hx : x < 18446744073709551616) (hS : S < 8) : moveN x S b < 18446744073709551616 := by
  have := bt_le b
  unfold moveN
  omega
theorem clr_mid (x : Nat) : clr x 1006632960 = 1073741824 * (x / 1073741824) + x % 67108864 := by
  apply Nat.eq_of_testBit_eq
  intro j
  rw [testBit_clr]
  have h1 : (1006632960 : Nat).testBit j = (decide (26 ≤ j) && decide (j < 30)) := by
    rw [show (1006632960 : Nat) = 2 ^ 26 * (2 ^ 4 - 1) + 0 from rfl, Nat.testBit_two_pow_mul_add _ (by omega)]
    split
    · rename_i h; simp [show ¬ 26 ≤ j by omega]
    · rename_i h
      rw [Nat.testBit_two_pow_sub_one, decide_eq_true (show 26 ≤ j by omega), Bool.true_and]
      exact decide_eq_decide.2 (by omega)
  rw [h1, show 1073741824 * (x / 1073741824) + x % 67108864 = 2 ^ 30 * (x / 2 ^ 30) + x % 2 ^ 26 from rfl, Nat.testBit_two_pow_mul_add _ (Nat.lt_of_lt_of_le (Nat.mod_lt _ (by omega)) (by omega))]
  split
  · rename_i h
    rw [Nat.testBit_mod_two_pow, decide_eq_true h, Bool.and_true, Bool.and_comm]
    congr 1
    rw [Bool.eq_iff_iff]
    simp
  · rename_i h
    rw [Nat.testBit_div_two_pow, show j - 30 + 30 = j by omega, decide_eq_false h]
    simp
theorem or_mid (q r S : Nat) (hr : r < 134217728) (hS : S < 8) : (1073741824 * q + r) ||| (134217728 * S) = 1073741824 * q + 134217728 * S + r := by
  have h1 : 2 ^ 30 * q + r = 2 ^ 30 * q ||| r := Nat.two_pow_add_eq_or_of_lt (by omega) q
  have h2 : 2 ^ 27 * S + r = 2 ^ 27 * S ||| r := Nat.two_pow_add_eq_or_of_lt (by omega) S
  have h3 : 2 ^ 30 * q + (2 ^ 27 * S + r) = 2 ^ 30 * q ||| (2 ^ 27 * S + r) := Nat.two_pow_add_eq_or_of_lt (by omega) q
  have e1 : (1073741824 : Nat) = 2 ^ 30 := rfl
  have e2 : (134217728 : Nat) = 2 ^ 27 := rfl
  rw [e1, e2, h1, Nat.or_assoc, Nat.or_comm r, ← h2, ← h3, Nat.add_assoc]
theorem or_26 (x : Nat) (B : Nat) (hB : B ≤ 1) : (1073741824 * (x / 1073741824) + x % 67108864) ||| (67108864 * B) = 1073741824 * (x / 1073741824) + (67108864 * B + x % 67108864) := by
  have h1 : 2 ^ 30 * (x / 1073741824) + x % 67108864 = 2 ^ 30 * (x / 1073741824) ||| (x % 67108864) := Nat.two_pow_add_eq_or_of_lt (by omega) _
  have h2 : 2 ^ 26 * B + x % 67108864 = 2 ^ 26 * B ||| (x % 67108864) := Nat.two_pow_add_eq_or_of_lt (by omega) B
  have h3 : 2 ^ 30 * (x / 1073741824) + (2 ^ 26 * B + x % 67108864) = 2 ^ 30 * (x / 1073741824) ||| (2 ^ 26 * B + x % 67108864) := Nat.two_pow_add_eq_or_of_lt (by omega) _
  have e1 : (1073741824 : Nat) = 2 ^ 30 := rfl
  have e2 : (67108864 : Nat) * B = 2 ^ 26 * B := rfl
  rw [show 1073741824 * (x / 1073741824) = 2 ^ 30 * (x / 1073741824) from rfl, e2, h1, Nat.or_assoc, Nat.or_comm (x % 67108864), ← h2, ← h3]
/-- A state's low bits. -/
def low8 (st : Int) : Nat := (st % 8).toNat
theorem low8_lt (st : Int) : low8 st < 8 := by unfold low8; omega
theorem wrap_emod (st : Int) : IntKind.u64.wrap st = st % 18446744073709551616 := by
  simp [IntKind.wrap, IntKind.signed, IntKind.bits]
theorem and7 (st : Int) : bits .and .u64 (IntKind.u64.wrap st) 7 = (low8 st : Int) := by
  rw [wrap_emod, show (7 : Int) = 2 ^ 3 - 1 from rfl, mask64 3 (by omega) _ (by omega) (by omega)]
  unfold low8
  omega
set_option maxHeartbeats 1000000 in
theorem Move_any (x : Nat) (st : Int) (b : Bool) (w : World) (hx : x < 18446744073709551616) :
    Calls Try.prog 15 #[.int .u64 (x : Int), .int .i64 st, .bool b] w fun e w' => e = .returned (.int .u64 (moveN x (low8 st) b : Int)) ∧ Below w.heap.size w w' := by
  obtain ⟨B, hB⟩ : ∃ B, bt b = B := ⟨_, rfl⟩
  have l1 := bt_le b
  rw [hB] at l1
  have E1 := Hid.mk' hB
  have hS := low8_lt st
  have ha := and7 st
  have hg1 : bits .andNot .u64 (x : Int) 1006632960 = ((1073741824 * (x / 1073741824) + x % 67108864 : Nat) : Int) := by
    rw [← clr_mid]
    exact go_clr x 1006632960 hx (by omega)
  have hC : 1073741824 * (x / 1073741824) + x % 67108864 < 18446744073709551616 := by omega
  have hg2 : bits .or .u64 ((1073741824 * (x / 1073741824) + x % 67108864 : Nat) : Int) ((B : Int) * 67108864) = ((1073741824 * (x / 1073741824) + (67108864 * B + x % 67108864) : Nat) : Int) := by
    rw [← or_26 x B l1, show ((B : Int) * 67108864) = ((67108864 * B : Nat) : Int) by omega]
    exact go_or _ _ hC (by omega)
  have hg3 : bits .or .u64 ((1073741824 * (x / 1073741824) + (67108864 * B + x % 67108864) : Nat) : Int) ((low8 st : Int) * 134217728) = ((moveN x (low8 st) b : Nat) : Int) := by
    rw [show ((low8 st : Int) * 134217728) = ((134217728 * low8 st : Nat) : Int) by omega]
    rw [go_or _ _ (by omega) (by omega), or_mid _ _ _ (by omega) hS]
    unfold moveN
    rw [hB]
    omega
  clear hB
  generalize (1073741824 * (x / 1073741824) + x % 67108864 : Nat) = C1 at *
  generalize (1073741824 * (x / 1073741824) + (67108864 * B + x % 67108864) : Nat) = C2 at *
  generalize moveN x (low8 st) b = C3 at *
  generalize low8 st = S at *
  go_enter Try.func15, Try.ntmps15
  go_wp2_with (go_at_call 25; refine (bit_q b B E1 _).mono ?_; rintro e w1 ⟨rfl, hb1⟩)
  go_ret
  exact ⟨rfl, hb1⟩
theorem tmod8 (st : Int) : Int.tmod st 8 = if 0 ≤ st then st % 8 else -((-st) % 8) := by
  split
  · rename_i h; exact Int.tmod_eq_emod_of_nonneg h
  · rename_i h
    have h2 : Int.tmod (-(-st)) 8 = -(Int.tmod (-st) 8) := Int.neg_tmod _ _
    rw [Int.neg_neg] at h2
    rw [h2, Int.tmod_eq_emod_of_nonneg (by omega)]
theorem put_26 (a r : Nat) (b : Bool) (hr : r < 134217728) : putW (134217728 * a + r) 26 b = 134217728 * a + 67108864 * bt b + r % 67108864 := by
  have p : pw 26 = 67108864 := rfl
  have p' : (2 : Nat) ^ 26 = 67108864 := rfl
  have ht := tb (134217728 * a + r) 26
  rw [p'] at ht
  by_cases h : (134217728 * a + r) / 67108864 % 2 = 1
  · rw [decide_eq_true h] at ht
    cases b with
    | true =>
      refine (or_bit_same ht).trans ?_
      unfold bt
      simp
      omega
    | false =>
      refine (sub_bit ht).symm.trans ?_
      rw [p']
      unfold bt
      simp
      omega
  · rw [decide_eq_false h] at ht
    cases b with
    | true =>
      refine (add_bit ht).symm.trans ?_
      rw [p']
      unfold bt
      simp
      omega
    | false =>
      refine (clr_bit_same ht).trans ?_
      unfold bt
      simp
      omega
theorem put_move (x S : Nat) (b : Bool) (hS : S < 8) : putW (1073741824 * (x / 1073741824) + 134217728 * S + x % 134217728) 26 b = moveN x S b := by
  have h := put_26 (8 * (x / 1073741824) + S) (x % 134217728) b (by omega)
  rw [show 134217728 * (8 * (x / 1073741824) + S) + x % 134217728 = 1073741824 * (x / 1073741824) + 134217728 * S + x % 134217728 by omega] at h
  rw [h]
  unfold moveN
  omega
set_option maxHeartbeats 1000000 in
theorem RMove_any (x : Nat) (st : Int) (b : Bool) (w : World) (hx : x < 18446744073709551616) :
    Calls Try.prog 16 #[.int .u64 (x : Int), .int .i64 st, .bool b] w fun e w' => e = .returned (.int .u64 (moveN x (low8 st) b : Int)) ∧ Below w.heap.size w w' := by
  have P1 : ∀ w, Calls Try.prog 26 #[.int .i64 27] w fun e w' => e = .returned (.int .u64 134217728) ∧ Below w.heap.size w w' := fun w => Power_lit 27 134217728 w (by omega) (Hid.mk' (by rw [show pw 27 = 134217728 from rfl]; omega))
  have hS := low8_lt st
  have hm := put_move x (low8 st) b hS
  have ht := tmod8 st
  have hlow : (low8 st : Int) = st % 8 := by unfold low8; omega
  have hn : Hid (numW x 27 3 = x / 134217728 % 8) := Hid.mk' rfl
  obtain ⟨n, hn2⟩ : ∃ n, x / 134217728 % 8 = n := ⟨_, rfl⟩
  obtain ⟨Y, hY⟩ : ∃ Y, 1073741824 * (x / 1073741824) + 134217728 * low8 st + x % 134217728 = Y := ⟨_, rfl⟩
  have hY2 : Y < 18446744073709551616 := by omega
  have N1 : ∀ w, Calls Try.prog 30 #[.int .u64 (x : Int), .int .i64 27, .int .i64 3] w fun e w' => e = .returned (.int .i64 (n : Int)) ∧ Below w.heap.size w w' := fun w => by
    rw [← hn2, ← hn.out]
    exact number_any x 27 3 w hx (by omega) (by omega)
  have hYe : Hid ((x : Int) - 134217728 * (n : Int) + 134217728 * (low8 st : Int) = (Y : Int)) := Hid.mk' (by omega)
  have k1 : 134217728 * (n : Int) ≤ (x : Int) := by omega
  have k2 : (x : Int) - 134217728 * (n : Int) ≤ 18446744072770027519 := by omega
  have k3 : n < 8 := by omega
  rw [hY] at hm
  clear hY hn2 hn
  have HM := Hid.mk' hm
  clear hm
  by_cases hneg : Int.tmod st 8 < 0
  · have hr : Hid (Int.tmod st 8 + 8 = (low8 st : Int)) := Hid.mk' (by rw [ht, hlow] at *; split at hneg <;> omega)
    have hr0 : -8 < Int.tmod st 8 := by rw [ht] at *; split at hneg <;> omega
    clear ht hlow
    generalize moveN x (low8 st) b = M at *
    generalize low8 st = S at *
    go_enter Try.func16, Try.ntmps16
    go_wp2_with fail
    rw [hr.out]
    refine (P1 _).mono ?_
    rintro e w1 ⟨rfl, hb1⟩
    go_wp2_with fail
    refine (N1 _).mono ?_
    rintro e w2 ⟨rfl, hb2⟩
    go_wp2_with fail
    refine (P1 _).mono ?_
    rintro e w3 ⟨rfl, hb3⟩
    go_wp2_with fail
    rw [hYe.out]
    refine (Put_q Y 26 b M _ hY2 (by omega) HM).mono ?_
    rintro e w4 ⟨rfl, hb4⟩
    go_wp2_with fail
    go_ret
    exact ⟨rfl, below_then (below_then (below_then hb1 hb2) hb3) hb4⟩
  · have hr : Hid (Int.tmod st 8 = (low8 st : Int)) := Hid.mk' (by rw [ht, hlow] at *; split at hneg <;> omega)
    have hr0 : Int.tmod st 8 < 8 := by rw [ht] at *; split at hneg <;> omega
    clear ht hlow
    generalize moveN x (low8 st) b = M at *
    generalize low8 st = S at *
    go_enter Try.func16, Try.ntmps16
    go_wp2_with fail
    rw [hr.out]
    refine (P1 _).mono ?_
    rintro e w1 ⟨rfl, hb1⟩
    go_wp2_with fail
    refine (N1 _).mono ?_
    rintro e w2 ⟨rfl, hb2⟩
    go_wp2_with fail
    refine (P1 _).mono ?_
    rintro e w3 ⟨rfl, hb3⟩
    go_wp2_with fail
    rw [hYe.out]
    refine (Put_q Y 26 b M _ hY2 (by omega) HM).mono ?_
    rintro e w4 ⟨rfl, hb4⟩
    go_wp2_with fail
    go_ret
    exact ⟨rfl, below_then (below_then (below_then hb1 hb2) hb3) hb4⟩
end Go.Proofs.Ytggphjmlnbkngaa
