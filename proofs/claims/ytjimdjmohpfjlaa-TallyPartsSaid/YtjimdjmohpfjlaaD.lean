/-
  The walks of the laws TallyPacks and TallyParts: their last statement draws its order.
-/
import Derived.Test.YtjimdjmohpfjlaaC
import Derived.BigQuiet
namespace Go.Proofs.Ytjimdjmohpfjlaa
open Go.RowKit
set_option linter.unusedVariables false
set_option linter.unusedSimpArgs false
theorem TallyPacks_walk (s p : Int) (ws : (Lit.int .u64 s).wf = true) (wp : (Lit.int .i64 p).wf = true) (w : World) :
    Calls Try.prog 3 #[.agg #[.int .u64 s, .int .i64 p]] w fun e w' => e = .returned (.bool true) ∧ Below w.heap.size w w' := by
  obtain ⟨h0, _⟩ := u64_bd ws
  clear ws wp
  have HB := Below.refl (w.alloc (.cells #[.int .u64 s, .int .i64 p] 24)).heap.size (w.alloc (.cells #[.int .u64 s, .int .i64 p] 24))
  cases hp : packB s p with
  | false =>
    go_enter Try.func3, Try.ntmps3
    go_wp2_with (first
      | (go_at_call 9; refine (Pack_any _ _ _ (by assumption)).mono ?_; rintro e w1 ⟨rfl, hb1⟩; have HC := below_then HB hb1; clear HB; have HB := HC; clear HC; obtain ⟨hc1, hf1⟩ := bcell HB)
      | (go_at_call 10; refine (RPack_any _ _ _ (by assumption)).mono ?_; rintro e w2 ⟨rfl, hb2⟩; have HC := below_then HB hb2; clear HB; have HB := HC; clear HC; obtain ⟨hc2, hf2⟩ := bcell HB))
    refine wp_region_quiet_below (by kernel_rfl) (by kernel_rfl) ?_
    repeat (go_big_quiet_step (first | (go_at_call 11; exact quiet_call (alive_any _)) | fail))
    refine wpQuiet_nil ?_
    rintro w3 ⟨r3, rfl⟩
    go_wp2
    go_ret
    exact ⟨rfl, below_regrow (below_then (below_alloc (Below.refl _ _) _) HB) _ _⟩
  | true =>
    have g : s ≤ 1099511627775 ∧ -1 ≤ p ∧ p ≤ 11 := by unfold packB at hp; exact of_decide_eq_true hp
    have e1 : packW s p = 16 * s + (p + 1) := by unfold packW; rw [if_pos g]
    have a1 : 0 ≤ packW s p := by rw [e1]; omega
    have a2 : packW s p < 18446744073709551616 := by rw [e1]; omega
    have a3 : packW s p / 16 = s := by rw [e1]; omega
    have a4 : packW s p % 16 - 1 = p := by rw [e1]; omega
    clear e1 g
    go_enter Try.func3, Try.ntmps3
    go_wp2_with (first
      | (go_at_call 9; refine (Pack_any _ _ _ (by assumption)).mono ?_; rintro e w1 ⟨rfl, hb1⟩; have HC := below_then HB hb1; clear HB; have HB := HC; clear HC; obtain ⟨hc1, hf1⟩ := bcell HB)
      | (go_at_call 10; refine (RPack_any _ _ _ (by assumption)).mono ?_; rintro e w2 ⟨rfl, hb2⟩; have HC := below_then HB hb2; clear HB; have HB := HC; clear HC; obtain ⟨hc2, hf2⟩ := bcell HB))
    have g0 := fun d os => cell_regrown (w := w2) (a := ⟨w.heap.size, 0, none⟩) (v := .int .u64 s) (by rw [hc2 _ _ (by simp)]; simp) d os
    have g1 := fun d os => cell_regrown (w := w2) (a := ⟨w.heap.size, 1, none⟩) (v := .int .i64 p) (by rw [hc2 _ _ (by simp)]; simp) d os
    refine wp_region_quiet_below (by kernel_rfl) (by kernel_rfl) ?_
    repeat (go_big_quiet_step (first | (go_at_call 11; exact quiet_call (alive_any _)) | (go_at_call 12; exact quiet_call (Unpack_any _ _ (by assumption) (by assumption)))))
    refine wpQuiet_nil ?_
    rintro w3 ⟨r3, rfl⟩
    go_wp2
    go_ret
    exact ⟨rfl, below_regrow (below_then (below_alloc (Below.refl _ _) _) HB) _ _⟩
theorem TallyParts_walk (x : Int) (wx : (Lit.int .u64 x).wf = true) (w : World) :
    Calls Try.prog 4 #[.int .u64 x] w fun e w' => e = .returned (.bool true) ∧ Below w.heap.size w w' := by
  obtain ⟨h0, h1⟩ := u64_bd wx
  clear wx
  have s0 : 0 ≤ x / 16 * 16 := by omega
  have s1 : x / 16 * 16 < 18446744073709551616 := by omega
  have s2 : x / 16 * 16 / 16 = x / 16 := by omega
  have s3 : x / 16 * 16 % 16 - 1 = -1 := by omega
  go_enter Try.func4, Try.ntmps4
  go_wp2_with (first
    | (go_at_call 12; refine (Unpack_any _ _ (by assumption) (by assumption)).mono ?_; rintro e w1 ⟨rfl, hb1⟩)
    | (go_at_call 13; refine (Settled_any _ _ (by assumption) (by assumption)).mono ?_; rintro e w2 ⟨rfl, hb2⟩))
  rename_i Q wa hba K hK
  have HB : Below (wa.alloc (.cells #[.int .u64 (x / 16), .int .i64 (x % 16 - 1)] 27)).heap.size (wa.alloc (.cells #[.int .u64 (x / 16), .int .i64 (x % 16 - 1)] 27)) (w1.alloc (.cells #[.int .u64 (x / 16), .int .i64 (-1)] 27)) := below_alloc (below_then hb2 hb1) _
  have g0 := fun d os => cell_regrown (w := w1.alloc (.cells #[.int .u64 (x / 16), .int .i64 (-1)] 27)) (a := ⟨wa.heap.size, 0, none⟩) (v := .int .u64 (x / 16)) (by rw [HB.cell (by simp)]; simp) d os
  have g1 := fun d os => cell_regrown (w := w1.alloc (.cells #[.int .u64 (x / 16), .int .i64 (-1)] 27)) (a := ⟨wa.heap.size, 1, none⟩) (v := .int .i64 (x % 16 - 1)) (by rw [HB.cell (by simp)]; simp) d os
  have g2 := fun d os => cell_regrown (w := w1.alloc (.cells #[.int .u64 (x / 16), .int .i64 (-1)] 27)) (a := ⟨w1.heap.size, 0, none⟩) (v := .int .u64 (x / 16)) (by simp) d os
  have g3 := fun d os => cell_regrown (w := w1.alloc (.cells #[.int .u64 (x / 16), .int .i64 (-1)] 27)) (a := ⟨w1.heap.size, 1, none⟩) (v := .int .i64 (-1)) (by simp) d os
  refine wp_region_quiet_below (by kernel_rfl) (by kernel_rfl) ?_
  repeat (go_big_quiet_step (first | (go_at_call 11; exact quiet_call (alive_any _)) | (go_at_call 14; exact quiet_call (RUnpack_any _ _ (by assumption) (by assumption))) | (go_at_call 13; exact quiet_call (Settled_any _ _ (by assumption) (by assumption))) | (go_at_call 15; exact quiet_call (RSettled_any _ _ (by assumption) (by assumption)))))
  refine wpQuiet_nil ?_
  rintro w3 ⟨r3, rfl⟩
  go_wp2
  go_ret
  exact ⟨rfl, below_regrow (below_alloc (below_then (below_then (below_alloc (below_then (Below.refl _ _) hba) _) hb2) hb1) _) _ _⟩
end Go.Proofs.Ytjimdjmohpfjlaa
