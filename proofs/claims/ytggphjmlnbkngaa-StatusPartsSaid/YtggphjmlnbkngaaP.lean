/-
  The walks of the laws StatusPacks and StatusParts.
-/
import Derived.Test.YtggphjmlnbkngaaM
namespace Go.Proofs.Ytggphjmlnbkngaa
open Go.RowKit
set_option linter.unusedVariables false
set_option linter.unusedSimpArgs false
set_option maxHeartbeats 2000000 in
theorem StatusPacks_walk (g st : Int) (b ip op : Bool) (i o : Int) (wg : (Lit.int .i64 g).wf = true) (wst : (Lit.int .i64 st).wf = true) (wi : (Lit.int .i64 i).wf = true) (wo : (Lit.int .i64 o).wf = true) (w : World) :
    Calls Try.prog 3 #[.agg #[.int .i64 g, .int .i64 st, .bool b, .bool ip, .bool op, .int .i64 i, .int .i64 o]] w fun e w' => e = .returned (.bool true) ∧ Below w.heap.size w w' := by
  have hB := below_alloc (Below.refl w.heap.size w) (.cells #[.int .i64 g, .int .i64 st, .bool b, .bool ip, .bool op, .int .i64 i, .int .i64 o] 23)
  have b1 := blk_new w (.cells #[.int .i64 g, .int .i64 st, .bool b, .bool ip, .bool op, .int .i64 i, .int .i64 o] 23)
  by_cases hv : validS g st i o
  · obtain ⟨h1, h2, h3, h4, h5, h6, h7, h8⟩ := hv
    obtain ⟨g, rfl⟩ := Int.eq_ofNat_of_zero_le h1
    obtain ⟨st, rfl⟩ := Int.eq_ofNat_of_zero_le h3
    obtain ⟨i, rfl⟩ := Int.eq_ofNat_of_zero_le h5
    obtain ⟨o, rfl⟩ := Int.eq_ofNat_of_zero_le h7
    have C1 := fun w => Pack_yes g st b ip op i o w (by omega) (by omega) (by omega) (by omega)
    have C2 := fun w => RPack_yes g st b ip op i o w (by omega) (by omega) (by omega) (by omega)
    have C3 := fun w => Unpack_word g st b ip op i o _ (Hid.mk' rfl) w (by omega) (by omega) (by omega) (by omega)
    generalize wordN g st b ip op i o = X at *
    clear h1 h2 h3 h4 h5 h6 h7 h8 wg wst wi wo
    go_enter Try.func3, Try.ntmps3
    go_wp2_with fail
    generalize w.alloc (Obj.cells #[Value.int IntKind.i64 (g : Int), Value.int IntKind.i64 (st : Int), Value.bool b, Value.bool ip, Value.bool op, Value.int IntKind.i64 (i : Int), Value.int IntKind.i64 (o : Int)] 23) = W at *
    refine (C1 _).mono ?_
    rintro e w1 ⟨rfl, hb1⟩
    have b2 := blk_below b1 hb1
    have c0 := blk_cell b2 0
    have c1 := blk_cell b2 1
    have c2 := blk_cell b2 2
    have c3 := blk_cell b2 3
    have c4 := blk_cell b2 4
    have c5 := blk_cell b2 5
    have c6 := blk_cell b2 6
    simp at c0 c1 c2 c3 c4 c5 c6
    go_wp2_with fail
    refine (C2 _).mono ?_
    rintro e w2 ⟨rfl, hb2⟩
    clear c0 c1 c2 c3 c4 c5 c6
    have b3 := blk_below b2 hb2
    have c0 := blk_cell b3 0
    have c1 := blk_cell b3 1
    have c2 := blk_cell b3 2
    have c3 := blk_cell b3 3
    have c4 := blk_cell b3 4
    have c5 := blk_cell b3 5
    have c6 := blk_cell b3 6
    simp at c0 c1 c2 c3 c4 c5 c6
    have hB2 := below_then (below_then hB hb1) hb2
    go_wp2_with fail
    have g0 := cell_regrown c0
    have g1 := cell_regrown c1
    have g2 := cell_regrown c2
    have g3 := cell_regrown c3
    have g4 := cell_regrown c4
    have g5 := cell_regrown c5
    have g6 := cell_regrown c6
    refine wp_region_quiet_below (by kernel_rfl) (by kernel_rfl) ?_
    repeat (go_big_quiet_step (first | (go_at_call 12; exact quiet_call (alive_any _)) | (go_at_call 13; exact quiet_call (C3 _))))
    refine wpQuiet_nil ?_
    rintro w3 ⟨r3, rfl⟩
    go_wp2
    go_ret
    exact ⟨rfl, below_regrow hB2 _ _⟩
  · have C1 := fun w => Pack_no g st b ip op i o w wg wst wi wo hv
    have C2 := fun w => RPack_no g st b ip op i o w wg wst wi wo hv
    clear wg wst wi wo hv
    go_enter Try.func3, Try.ntmps3
    go_wp2_with fail
    generalize w.alloc (Obj.cells #[Value.int IntKind.i64 g, Value.int IntKind.i64 st, Value.bool b, Value.bool ip, Value.bool op, Value.int IntKind.i64 i, Value.int IntKind.i64 o] 23) = W at *
    refine (C1 _).mono ?_
    rintro e w1 ⟨rfl, hb1⟩
    have b2 := blk_below b1 hb1
    have c0 := blk_cell b2 0
    have c1 := blk_cell b2 1
    have c2 := blk_cell b2 2
    have c3 := blk_cell b2 3
    have c4 := blk_cell b2 4
    have c5 := blk_cell b2 5
    have c6 := blk_cell b2 6
    simp at c0 c1 c2 c3 c4 c5 c6
    go_wp2_with fail
    refine (C2 _).mono ?_
    rintro e w2 ⟨rfl, hb2⟩
    have hB2 := below_then (below_then hB hb1) hb2
    go_wp2_with fail
    refine wp_region_quiet_below (by kernel_rfl) (by kernel_rfl) ?_
    repeat (go_big_quiet_step (first | (go_at_call 12; exact quiet_call (alive_any _))))
    refine wpQuiet_nil ?_
    rintro w3 ⟨r3, rfl⟩
    go_wp2
    go_ret
    exact ⟨rfl, below_regrow hB2 _ _⟩
end Go.Proofs.Ytggphjmlnbkngaa
