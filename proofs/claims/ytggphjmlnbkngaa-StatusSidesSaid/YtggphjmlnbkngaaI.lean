/-
  The law's own 'alive', under its contract.
-/
import Derived.Test.YtggphjmlnbkngaaH
namespace Go.Proofs.Ytggphjmlnbkngaa
open Go.RowKit
set_option linter.unusedVariables false
set_option linter.unusedSimpArgs false
theorem A1 (w : World) : Calls Try.prog 10 #[.agg #[.int .i64 1, .int .i64 2, .bool false, .bool false, .bool false, .int .i64 0, .int .i64 4]] w fun e w' => e = .returned (.tuple #[.int .u64 1342177284, .bool true]) ∧ Below w.heap.size w w' := by
  have h := Pack_yes 1 2 false false false 0 4 w (by omega) (by omega) (by omega) (by omega)
  rw [show wordN 1 2 false false false 0 4 = 1342177284 from rfl] at h
  exact h
theorem A2 (w : World) : Calls Try.prog 10 #[.agg #[.int .i64 0, .int .i64 0, .bool false, .bool false, .bool false, .int .i64 0, .int .i64 4096]] w fun e w' => e = .returned (.tuple #[.int .u64 0, .bool false]) ∧ Below w.heap.size w w' :=
  Pack_no 0 0 false false false 0 4096 w (by decide) (by decide) (by decide) (by decide) (by unfold validS; omega)
theorem bit10 : bitOf 1 0 = 4096 := by rw [(of_some (k := 1) (s := 0) (by omega)).2]; rfl
theorem bit00 : bitOf 0 0 = 1 := by rw [(of_some (k := 0) (s := 0) (by omega)).2]; rfl
theorem hasT : hasW 4096 1 0 = true := by unfold hasW; rw [(of_some (k := 1) (s := 0) (by omega)).1]; decide
theorem hasF : hasW 4096 0 0 = false := by unfold hasW; rw [(of_some (k := 0) (s := 0) (by omega)).1]; decide
theorem A3 (w : World) : Calls Try.prog 17 #[.int .u64 0, .int .i64 1, .int .i64 0] w fun e w' => e = .returned (.int .u64 4096) ∧ Below w.heap.size w w' := by
  have h := With_any 0 1 0 w (by omega)
  rw [show withW 0 1 0 = 4096 by unfold withW; rw [bit10]; rfl] at h
  exact h
theorem A4 (w : World) : Calls Try.prog 13 #[.int .u64 1342177284] w fun e w' => e = .returned (.agg #[.int .i64 1, .int .i64 2, .bool false, .bool false, .bool false, .int .i64 0, .int .i64 4]) ∧ Below w.heap.size w w' :=
  Unpack_word 1 2 false false false 0 4 1342177284 (Hid.mk' rfl) w (by omega) (by omega) (by omega) (by omega)
theorem drop4096 (g : Bool) : dropW 4096 0 g = if g then 33554432 else 0 := by
  unfold dropW dropN dropN dropN drop1
  have e1 : hasW 4096 ((0 : Nat) : Int) 0 = false := hasF
  have e2 : hasW 4096 ((1 : Nat) : Int) 0 = true := hasT
  have e3 : bitOf ((1 : Nat) : Int) 0 = 4096 := bit10
  rw [e1, e2, e3]
  cases g <;> decide
theorem A5 (w : World) : Calls Try.prog 23 #[.int .u64 4096, .int .i64 0, .bool true] w fun e w' => e = .returned (.int .u64 33554432) ∧ Below w.heap.size w w' := by
  have h := Drop_any 4096 0 true w (by omega)
  rw [drop4096] at h
  exact h
theorem A6 (w : World) : Calls Try.prog 23 #[.int .u64 4096, .int .i64 0, .bool false] w fun e w' => e = .returned (.int .u64 0) ∧ Below w.heap.size w w' := by
  have h := Drop_any 4096 0 false w (by omega)
  rw [drop4096] at h
  exact h
theorem A7 (w : World) : Calls Try.prog 18 #[.int .u64 4096, .int .i64 1, .int .i64 0] w fun e w' => e = .returned (.bool true) ∧ Below w.heap.size w w' := by
  have h := Has_any 4096 1 0 w (by omega)
  rw [hasT] at h
  exact h
theorem A8 (w : World) : Calls Try.prog 18 #[.int .u64 4096, .int .i64 0, .int .i64 0] w fun e w' => e = .returned (.bool false) ∧ Below w.heap.size w w' := by
  have h := Has_any 4096 0 0 w (by omega)
  rw [hasF] at h
  exact h
theorem A9 (w : World) : Calls Try.prog 21 #[.int .u64 33554432, .int .i64 1] w fun e w' => e = .returned (.bool true) ∧ Below w.heap.size w w' := by
  have h := Any_any 33554432 1 w (by omega)
  rw [show anyW 33554432 1 = true by rw [any_yes (by omega)]; decide] at h
  exact h
theorem A10 (w : World) : Calls Try.prog 21 #[.int .u64 4096, .int .i64 0] w fun e w' => e = .returned (.bool false) ∧ Below w.heap.size w w' := by
  have h := Any_any 4096 0 w (by omega)
  rw [show anyW 4096 0 = false by rw [any_yes (by omega)]; decide] at h
  exact h
theorem A11 (w : World) : Calls Try.prog 15 #[.int .u64 0, .int .i64 6, .bool true] w fun e w' => e = .returned (.int .u64 872415232) ∧ Below w.heap.size w w' := by
  have h := Move_any 0 6 true w (by omega)
  rw [show moveN 0 (low8 6) true = 872415232 from rfl] at h
  exact h
set_option maxHeartbeats 1000000 in
theorem alive_any (w : World) : Calls Try.prog 12 #[] w fun e w' => e = .returned (.bool true) ∧ Below w.heap.size w w' := by
  have hf : ∀ w, (Instr.field 27 (.agg #[.int .i64 1, .int .i64 2, .bool false, .bool false, .bool false, .int .i64 0, .int .i64 4]) 1).run Try.prog w = .ok (.int .i64 2) w := fun w => by kernel_rfl
  go_enter Try.func12, Try.ntmps12
  go_wp2_with fail
  refine (A1 _).mono ?_
  rintro e w1 ⟨rfl, hb1⟩
  go_wp2_with fail
  refine (A2 _).mono ?_
  rintro e w2 ⟨rfl, hb2⟩
  go_wp2_with fail
  refine (A3 _).mono ?_
  rintro e w3 ⟨rfl, hb3⟩
  go_wp2_with fail
  refine (A4 _).mono ?_
  rintro e w4 ⟨rfl, hb4⟩
  go_wp2_with fail
  refine (A5 _).mono ?_
  rintro e w5 ⟨rfl, hb5⟩
  go_wp2_with fail
  refine (A6 _).mono ?_
  rintro e w6 ⟨rfl, hb6⟩
  go_wp2_with fail
  refine (A7 _).mono ?_
  rintro e w7 ⟨rfl, hb7⟩
  go_wp2_with fail
  refine (A8 _).mono ?_
  rintro e w8 ⟨rfl, hb8⟩
  go_wp2_with fail
  refine (A9 _).mono ?_
  rintro e w9 ⟨rfl, hb9⟩
  go_wp2_with fail
  refine (A10 _).mono ?_
  rintro e w10 ⟨rfl, hb10⟩
  go_wp2_with fail
  refine (A11 _).mono ?_
  rintro e w11 ⟨rfl, hb11⟩
  go_wp2_with fail
  go_ret
  exact ⟨rfl, below_then (below_then (below_then (below_then (below_then (below_then (below_then (below_then (below_then (below_then hb1 hb2) hb3) hb4) hb5) hb6) hb7) hb8) hb9) hb10) hb11⟩
end Go.Proofs.Ytggphjmlnbkngaa
