/-
  The walk of the law StatusMoves.
-/
import Derived.Test.YtggphjmlnbkngaaL
namespace Go.Proofs.Ytggphjmlnbkngaa
open Go.RowKit
set_option linter.unusedVariables false
set_option linter.unusedSimpArgs false
theorem and7i (st : Int) : bits .and .i64 st 7 = (low8 st : Int) := by
  have h1 := and7 st
  have h2 : BitVec.ofInt 64 (IntKind.u64.wrap st) = BitVec.ofInt 64 st := by
    rw [wrap_emod]
    apply BitVec.eq_of_toInt_eq
    rw [BitVec.toInt_ofInt, BitVec.toInt_ofInt]
    exact Int.emod_bmod st (2 ^ 64)
  have h3 : bits .and .u64 (IntKind.u64.wrap st) 7 = IntKind.u64.wrap ((BitVec.ofInt 64 (IntKind.u64.wrap st) &&& BitVec.ofInt 64 7).toNat : Int) := rfl
  have h4 : bits .and .i64 st 7 = IntKind.i64.wrap ((BitVec.ofInt 64 st &&& BitVec.ofInt 64 7).toNat : Int) := rfl
  have h6 := (BitVec.ofInt 64 st &&& BitVec.ofInt 64 7).isLt
  rw [h2] at h3
  rw [h3] at h1
  rw [h4]
  generalize (BitVec.ofInt 64 st &&& BitVec.ofInt 64 7).toNat = q at *
  rw [IntWalk.u64_in _ (by omega)] at h1
  have h5 := low8_lt st
  rw [IntWalk.i64_left, IntWalk.wrap64_in _ (by omega), h1]
theorem Move_q (x : Nat) (st : Int) (b : Bool) (r : Nat) (w : World) (hx : x < 18446744073709551616) (hr : Hid (moveN x (low8 st) b = r)) : Calls Try.prog 15 #[.int .u64 (x : Int), .int .i64 st, .bool b] w fun e w' => e = .returned (.int .u64 (r : Int)) ∧ Below w.heap.size w w' := by
  have h : moveN x (low8 st) b = r := hr.out
  rw [← h]
  exact Move_any x st b w hx
theorem RMove_q (x : Nat) (st : Int) (b : Bool) (r : Nat) (w : World) (hx : x < 18446744073709551616) (hr : Hid (moveN x (low8 st) b = r)) : Calls Try.prog 16 #[.int .u64 (x : Int), .int .i64 st, .bool b] w fun e w' => e = .returned (.int .u64 (r : Int)) ∧ Below w.heap.size w w' := by
  have h : moveN x (low8 st) b = r := hr.out
  rw [← h]
  exact RMove_any x st b w hx
theorem moved (x S : Nat) (b : Bool) (hS : S < 8) (hx : x < 18446744073709551616) :
    partsV (moveN x S b) = #[.int .i64 (numW x 30 32 : Int), .int .i64 (S : Int), .bool b, .bool (x.testBit 25), .bool (x.testBit 24), .int .i64 (numW x 12 12 : Int), .int .i64 (numW x 0 12 : Int)] := by
  have l1 := bt_le b
  have hb : decide (moveN x S b / 67108864 % 2 = 1) = b := by
    conv => { rhs; rw [bt_dec b] }
    exact decide_eq_decide.2 (by unfold moveN; omega)
  unfold partsV numW
  rw [tb, tb, tb, tb, tb]
  simp only [show pw 30 = 1073741824 from rfl, show pw 32 = 4294967296 from rfl, show pw 27 = 134217728 from rfl, show pw 3 = 8 from rfl, show pw 12 = 4096 from rfl, show pw 0 = 1 from rfl, show (2 ^ 26 : Nat) = 67108864 from rfl, show (2 ^ 25 : Nat) = 33554432 from rfl, show (2 ^ 24 : Nat) = 16777216 from rfl]
  rw [hb]
  unfold moveN
  rw [show (1073741824 * (x / 1073741824) + 134217728 * S + 67108864 * bt b + x % 67108864) / 33554432 % 2 = x / 33554432 % 2 by omega]
  rw [show (1073741824 * (x / 1073741824) + 134217728 * S + 67108864 * bt b + x % 67108864) / 16777216 % 2 = x / 16777216 % 2 by omega]
  rw [show (1073741824 * (x / 1073741824) + 134217728 * S + 67108864 * bt b + x % 67108864) / 1073741824 % 4294967296 = x / 1073741824 % 4294967296 by omega]
  rw [show (1073741824 * (x / 1073741824) + 134217728 * S + 67108864 * bt b + x % 67108864) / 134217728 % 8 = S by omega]
  rw [show (1073741824 * (x / 1073741824) + 134217728 * S + 67108864 * bt b + x % 67108864) / 4096 % 4096 = x / 4096 % 4096 by omega]
  rw [show (1073741824 * (x / 1073741824) + 134217728 * S + 67108864 * bt b + x % 67108864) / 1 % 4096 = x / 1 % 4096 by omega]
set_option maxHeartbeats 2000000 in
theorem StatusMoves_walk (x : Int) (wx : (Lit.int .u64 x).wf = true) (st : Int) (wst : (Lit.int .i64 st).wf = true) (b : Bool) (w : World) :
    Calls Try.prog 5 #[.int .u64 x, .int .i64 st, .bool b] w fun e w' => e = .returned (.bool true) ∧ Below w.heap.size w w' := by
  obtain ⟨h0, h1⟩ := u64_bd wx
  obtain ⟨x, rfl⟩ := Int.eq_ofNat_of_zero_le h0
  have hx : x < 18446744073709551616 := by omega
  clear wx wst h0 h1
  have ha := and7i st
  have hS := low8_lt st
  have hM := moveN_lt b hx hS
  have hp := moved x (low8 st) b hS hx
  have U1 := fun w => Unpack_lit x w hx
  have U2 := fun w => Unpack_any (moveN x (low8 st) b) w hM
  rw [hp] at U2
  generalize hMe : moveN x (low8 st) b = M at *
  have HM := Hid.mk' hMe
  clear hMe hp
  generalize numW x 30 32 = n1 at *
  generalize numW x 27 3 = n2 at *
  generalize numW x 12 12 = n3 at *
  generalize numW x 0 12 = n4 at *
  generalize x.testBit 24 = t1 at *
  generalize x.testBit 25 = t2 at *
  generalize x.testBit 26 = t3 at *
  go_enter Try.func5, Try.ntmps5
  go_wp2_with fail
  refine (Move_q x st b M _ hx HM).mono ?_
  rintro e w1 ⟨rfl, hb1⟩
  go_wp2_with fail
  refine (U1 _).mono ?_
  rintro e w2 ⟨rfl, hb2⟩
  go_wp2_with fail
  refine (U2 _).mono ?_
  rintro e w3 ⟨rfl, hb3⟩
  go_wp2_with fail
  refine (alive_any _).mono ?_
  rintro e w4 ⟨rfl, hb4⟩
  obtain ⟨hc4, hf4⟩ := bcell hb4
  go_wp2_with fail
  refine (RMove_q x st b M _ hx HM).mono ?_
  rintro e w5 ⟨rfl, hb5⟩
  have HB := below_then hb4 hb5
  clear hc4 hf4
  obtain ⟨hc5, hf5⟩ := bcell HB
  generalize low8 st = S at *
  go_wp2_with fail
  go_ret
  exact ⟨rfl, below_then (below_then (below_alloc (below_alloc (below_then (below_then hb1 hb2) hb3) _) _) hb4) hb5⟩
end Go.Proofs.Ytggphjmlnbkngaa
