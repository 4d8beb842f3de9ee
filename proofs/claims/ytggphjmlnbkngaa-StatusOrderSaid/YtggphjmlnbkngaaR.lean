/-
  The walk of the law StatusParts.
-/
import Derived.Test.YtggphjmlnbkngaaP
namespace Go.Proofs.Ytggphjmlnbkngaa
open Go.RowKit
set_option linter.unusedVariables false
set_option linter.unusedSimpArgs false
theorem bt_test (x n : Nat) : bt (x.testBit n) = x / 2 ^ n % 2 := by
  rw [tb]
  unfold bt
  by_cases h : x / 2 ^ n % 2 = 1
  · simp [h]
  · simp [h]; omega
theorem word_parts (x : Nat) : wordN (numW x 30 32) (numW x 27 3) (x.testBit 26) (x.testBit 25) (x.testBit 24) (numW x 12 12) (numW x 0 12) = x % 4611686018427387904 := by
  unfold wordN numW
  rw [bt_test, bt_test, bt_test]
  simp only [show pw 30 = 1073741824 from rfl, show pw 32 = 4294967296 from rfl, show pw 27 = 134217728 from rfl, show pw 3 = 8 from rfl, show pw 12 = 4096 from rfl, show pw 0 = 1 from rfl, show (2 ^ 26 : Nat) = 67108864 from rfl, show (2 ^ 25 : Nat) = 33554432 from rfl, show (2 ^ 24 : Nat) = 16777216 from rfl]
  omega
theorem RUnpack_lit (X : Nat) (w : World) (hX : X < 18446744073709551616) :
    Calls Try.prog 14 #[.int .u64 (X : Int)] w fun e w' => e = .returned (.agg #[.int .i64 (numW X 30 32 : Int), .int .i64 (numW X 27 3 : Int), .bool (X.testBit 26), .bool (X.testBit 25), .bool (X.testBit 24), .int .i64 (numW X 12 12 : Int), .int .i64 (numW X 0 12 : Int)]) ∧ Below w.heap.size w w' := RUnpack_any X w hX
set_option maxHeartbeats 2000000 in
theorem StatusParts_walk (x : Int) (wx : (Lit.int .u64 x).wf = true) (w : World) :
    Calls Try.prog 4 #[.int .u64 x] w fun e w' => e = .returned (.bool true) ∧ Below w.heap.size w w' := by
  obtain ⟨h0, h1⟩ := u64_bd wx
  obtain ⟨x, rfl⟩ := Int.eq_ofNat_of_zero_le h0
  have hx : x < 18446744073709551616 := by omega
  clear wx h0 h1
  have U1 := fun w => Unpack_lit x w hx
  have U2 := fun w => RUnpack_lit x w hx
  have hw := word_parts x
  have l1 := numW_lt x 30 32
  have l2 := numW_lt x 27 3
  have l3 := numW_lt x 12 12
  have l4 := numW_lt x 0 12
  rw [show pw 32 = 4294967296 from rfl] at l1
  rw [show pw 3 = 8 from rfl] at l2
  rw [show pw 12 = 4096 from rfl] at l3 l4
  generalize numW x 30 32 = n1 at *
  generalize numW x 27 3 = n2 at *
  generalize numW x 12 12 = n3 at *
  generalize numW x 0 12 = n4 at *
  generalize x.testBit 24 = t3 at *
  generalize x.testBit 25 = t2 at *
  generalize x.testBit 26 = t1 at *
  by_cases hg : n1 ≤ 1073741824
  · have C1 := fun w => Pack_yes n1 n2 t1 t2 t3 n3 n4 w hg (by omega) (by omega) (by omega)
    rw [hw] at C1
    have hq : (((x % 4611686018427387904 : Nat) : Int) == (x : Int) % 4611686018427387904) = true := by simp
    have hgd : decide ((n1 : Int) ≤ 1073741824) = true := decide_eq_true (by omega)
    clear hw
    generalize (x % 4611686018427387904 : Nat) = X at *
    go_enter Try.func4, Try.ntmps4
    go_wp2_with fail
    refine (U1 _).mono ?_
    rintro e w1 ⟨rfl, hb1⟩
    have b1 := blk_new w1 (.cells #[.int .i64 (n1 : Int), .int .i64 (n2 : Int), .bool t1, .bool t2, .bool t3, .int .i64 (n3 : Int), .int .i64 (n4 : Int)] 27)
    have hB := below_alloc hb1 (.cells #[.int .i64 (n1 : Int), .int .i64 (n2 : Int), .bool t1, .bool t2, .bool t3, .int .i64 (n3 : Int), .int .i64 (n4 : Int)] 27)
    go_wp2_with fail
    generalize w1.alloc (Obj.cells #[Value.int IntKind.i64 (n1 : Int), Value.int IntKind.i64 (n2 : Int), Value.bool t1, Value.bool t2, Value.bool t3, Value.int IntKind.i64 (n3 : Int), Value.int IntKind.i64 (n4 : Int)] 27) = W at *
    refine (C1 _).mono ?_
    rintro e w2 ⟨rfl, hb2⟩
    have b2 := blk_below b1 hb2
    have c0 := blk_cell b2 0
    have c1 := blk_cell b2 1
    have c2 := blk_cell b2 2
    have c3 := blk_cell b2 3
    have c4 := blk_cell b2 4
    have c5 := blk_cell b2 5
    have c6 := blk_cell b2 6
    simp at c0 c1 c2 c3 c4 c5 c6
    have g0 := cell_regrown c0
    have g1 := cell_regrown c1
    have g2 := cell_regrown c2
    have g3 := cell_regrown c3
    have g4 := cell_regrown c4
    have g5 := cell_regrown c5
    have g6 := cell_regrown c6
    have hB2 := below_then hB hb2
    go_wp2_with fail
    refine wp_region_quiet_below (by kernel_rfl) (by kernel_rfl) ?_
    repeat (go_big_quiet_step (first | (go_at_call 12; exact quiet_call (alive_any _)) | (go_at_call 14; exact quiet_call (U2 _))))
    refine wpQuiet_nil ?_
    rintro w3 ⟨r3, rfl⟩
    go_wp2
    go_ret
    exact ⟨rfl, below_regrow hB2 _ _⟩
  · have C1 := fun w => Pack_no (n1 : Int) (n2 : Int) t1 t2 t3 (n3 : Int) (n4 : Int) w (by simp [Lit.wf, IntKind.min, IntKind.max, IntKind.signed, IntKind.bits]; omega) (by simp [Lit.wf, IntKind.min, IntKind.max, IntKind.signed, IntKind.bits]; omega) (by simp [Lit.wf, IntKind.min, IntKind.max, IntKind.signed, IntKind.bits]; omega) (by simp [Lit.wf, IntKind.min, IntKind.max, IntKind.signed, IntKind.bits]; omega) (by unfold validS; omega)
    have hgd : decide ((n1 : Int) ≤ 1073741824) = false := decide_eq_false (by omega)
    clear hw
    go_enter Try.func4, Try.ntmps4
    go_wp2_with fail
    refine (U1 _).mono ?_
    rintro e w1 ⟨rfl, hb1⟩
    have b1 := blk_new w1 (.cells #[.int .i64 (n1 : Int), .int .i64 (n2 : Int), .bool t1, .bool t2, .bool t3, .int .i64 (n3 : Int), .int .i64 (n4 : Int)] 27)
    have hB := below_alloc hb1 (.cells #[.int .i64 (n1 : Int), .int .i64 (n2 : Int), .bool t1, .bool t2, .bool t3, .int .i64 (n3 : Int), .int .i64 (n4 : Int)] 27)
    go_wp2_with fail
    generalize w1.alloc (Obj.cells #[Value.int IntKind.i64 (n1 : Int), Value.int IntKind.i64 (n2 : Int), Value.bool t1, Value.bool t2, Value.bool t3, Value.int IntKind.i64 (n3 : Int), Value.int IntKind.i64 (n4 : Int)] 27) = W at *
    refine (C1 _).mono ?_
    rintro e w2 ⟨rfl, hb2⟩
    have b2 := blk_below b1 hb2
    have c0 := blk_cell b2 0
    have c1 := blk_cell b2 1
    have c2 := blk_cell b2 2
    have c3 := blk_cell b2 3
    have c4 := blk_cell b2 4
    have c5 := blk_cell b2 5
    have c6 := blk_cell b2 6
    simp at c0 c1 c2 c3 c4 c5 c6
    have g0 := cell_regrown c0
    have g1 := cell_regrown c1
    have g2 := cell_regrown c2
    have g3 := cell_regrown c3
    have g4 := cell_regrown c4
    have g5 := cell_regrown c5
    have g6 := cell_regrown c6
    have hB2 := below_then hB hb2
    go_wp2_with fail
    refine wp_region_quiet_below (by kernel_rfl) (by kernel_rfl) ?_
    repeat (go_big_quiet_step (first | (go_at_call 12; exact quiet_call (alive_any _)) | (go_at_call 14; exact quiet_call (U2 _))))
    refine wpQuiet_nil ?_
    rintro w3 ⟨r3, rfl⟩
    go_wp2
    go_ret
    exact ⟨rfl, below_regrow hB2 _ _⟩
end Go.Proofs.Ytggphjmlnbkngaa
