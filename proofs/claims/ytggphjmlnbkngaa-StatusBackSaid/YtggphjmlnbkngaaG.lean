/-
  The reference's Pack, under its contract.
-/
import Derived.Test.YtggphjmlnbkngaaF
namespace Go.Proofs.Ytggphjmlnbkngaa
open Go.RowKit
set_option linter.unusedVariables false
set_option linter.unusedSimpArgs false
theorem Power_lit (n : Nat) (v : Int) (w : World) (hn' : n < 64) (hv : Hid (((pw n : Nat) : Int) = v)) : Calls Try.prog 26 #[.int .i64 (n : Int)] w fun e w' => e = .returned (.int .u64 v) ∧ Below w.heap.size w w' := by
  have h : ((pw n : Nat) : Int) = v := hv.out
  rw [← h]
  exact Power_any n w hn'
theorem Put_q (x n : Nat) (b : Bool) (r : Nat) (w : World) (hx : x < 18446744073709551616) (hn : n < 64) (hr : Hid (putW x n b = r)) :
    Calls Try.prog 27 #[.int .u64 (x : Int), .int .i64 (n : Int), .bool b] w fun e w' => e = .returned (.int .u64 (r : Int)) ∧ Below w.heap.size w w' := by
  have h : putW x n b = r := hr.out
  rw [← h]
  exact Put_any x n b w hx hn
theorem put_add (x n : Nat) (c : Bool) (h : x / pw n % 2 = 0) : putW x n c = x + pw n * bt c := by
  have ht : x.testBit n = false := by rw [tb]; simp; rw [pw_eq] at h; omega
  cases c with
  | false => exact (clr_bit_same ht).trans (by simp [bt])
  | true => exact (add_bit ht).symm.trans (by simp [bt, pw_eq])
theorem puts_word (g st : Nat) (b ip op : Bool) (i o : Nat) (hg : g ≤ 1073741824) (hst : st ≤ 7) (hi : i ≤ 4095) (ho : o ≤ 4095) :
    putW (putW (putW (1073741824 * g + 134217728 * st + 4096 * i + o) 24 op) 25 ip) 26 b = wordN g st b ip op i o := by
  have l1 := bt_le b
  have l2 := bt_le ip
  have l3 := bt_le op
  have p24 : pw 24 = 16777216 := rfl
  have p25 : pw 25 = 33554432 := rfl
  have p26 : pw 26 = 67108864 := rfl
  rw [put_add _ 24 op (by rw [p24]; omega), p24]
  rw [put_add _ 25 ip (by rw [p25]; omega), p25]
  rw [put_add _ 26 b (by rw [p26]; omega), p26]
  unfold wordN
  omega
set_option maxHeartbeats 2000000 in
theorem RPack_yes (g st : Nat) (b ip op : Bool) (i o : Nat) (w : World) (hg : g ≤ 1073741824) (hst : st ≤ 7) (hi : i ≤ 4095) (ho : o ≤ 4095) :
    Calls Try.prog 11 #[.agg #[.int .i64 (g : Int), .int .i64 (st : Int), .bool b, .bool ip, .bool op, .int .i64 (i : Int), .int .i64 (o : Int)]] w fun e w' => e = .returned (.tuple #[.int .u64 (wordN g st b ip op i o : Int), .bool true]) ∧ Below w.heap.size w w' := by
  have b1 := blk_new w (.cells #[.int .i64 (g : Int), .int .i64 (st : Int), .bool b, .bool ip, .bool op, .int .i64 (i : Int), .int .i64 (o : Int)] 23)
  have hB := below_alloc (Below.refl w.heap.size w) (.cells #[.int .i64 (g : Int), .int .i64 (st : Int), .bool b, .bool ip, .bool op, .int .i64 (i : Int), .int .i64 (o : Int)] 23)
  have hw := puts_word g st b ip op i o hg hst hi ho
  have P1 : ∀ w, Calls Try.prog 26 #[.int .i64 27] w fun e w' => e = .returned (.int .u64 134217728) ∧ Below w.heap.size w w' := fun w => Power_lit 27 134217728 w (by omega) (Hid.mk' (by rw [show pw 27 = 134217728 from rfl]; omega))
  have P2 : ∀ w, Calls Try.prog 26 #[.int .i64 30] w fun e w' => e = .returned (.int .u64 1073741824) ∧ Below w.heap.size w w' := fun w => Power_lit 30 1073741824 w (by omega) (Hid.mk' (by rw [show pw 30 = 1073741824 from rfl]; omega))
  rw [← hw]
  clear hw
  obtain ⟨X, hX⟩ : ∃ X, 1073741824 * g + 134217728 * st + 4096 * i + o = X := ⟨_, rfl⟩
  rw [hX]
  have hX1 : X < 18446744073709551616 := by omega
  have hXe : Hid ((o : Int) + 4096 * (i : Int) + 134217728 * (st : Int) + 1073741824 * (g : Int) = (X : Int)) := Hid.mk' (by omega)
  have hX2 := putW_lt (n := 24) op hX1 (by omega)
  have hX3 := putW_lt (n := 25) ip hX2 (by omega)
  clear hX
  generalize q2 : putW X 24 op = X2 at *
  generalize q3 : putW X2 25 ip = X3 at *
  generalize q4 : putW X3 26 b = X4 at *
  have Q2 := Hid.mk' q2
  have Q3 := Hid.mk' q3
  have Q4 := Hid.mk' q4
  clear q2 q3 q4
  go_enter Try.func11, Try.ntmps11
  go_wp2_with fail
  generalize w.alloc (Obj.cells #[Value.int IntKind.i64 (g : Int), Value.int IntKind.i64 (st : Int), Value.bool b, Value.bool ip, Value.bool op, Value.int IntKind.i64 (i : Int), Value.int IntKind.i64 (o : Int)] 23) = W at *
  have c0 := blk_cell b1 0
  have c1 := blk_cell b1 1
  have c2 := blk_cell b1 2
  have c3 := blk_cell b1 3
  have c4 := blk_cell b1 4
  have c5 := blk_cell b1 5
  have c6 := blk_cell b1 6
  simp at c0 c1 c2 c3 c4 c5 c6
  generalize w.heap.size = G at c0 c1 c2 c3 c4 c5 c6 b1 ⊢
  have g0 := cell_regrown c0
  have g1 := cell_regrown c1
  have g2 := cell_regrown c2
  have g3 := cell_regrown c3
  have g4 := cell_regrown c4
  have g5 := cell_regrown c5
  have g6 := cell_regrown c6
  refine wp_region_quiet_below (by kernel_rfl) (by kernel_rfl) ?_
  repeat (go_big_quiet_step (first | (go_at_call 26; first | with_reducible exact quiet_call (P1 _) | with_reducible exact quiet_call (P2 _))))
  refine wpQuiet_nil ?_
  rintro w3 ⟨r3, rfl⟩
  rw [hXe.out]
  have hB3 := below_regrow hB r3.d r3.os
  have c2 := g2 r3.d r3.os
  have c3 := g3 r3.d r3.os
  have c4 := g4 r3.d r3.os
  generalize Go.Sort.grow (redrawn W r3.d) r3.os = W3 at *
  clear g0 g1 g2 g3 g4 g5 g6 hB b1 c0 c1 c5 c6
  go_wp2_with fail
  refine (Put_q X 24 op X2 _ hX1 (by omega) Q2).mono ?_
  rintro e' w4 ⟨rfl, hb4⟩
  have d3 : w4.cell? ⟨G, 3, none⟩ = some (.bool ip) := by rw [hb4.cell (World.block_lt_of_cell? _ _ c3)]; exact c3
  have d2 : w4.cell? ⟨G, 2, none⟩ = some (.bool b) := by rw [hb4.cell (World.block_lt_of_cell? _ _ c2)]; exact c2
  go_wp2_with fail
  refine (Put_q X2 25 ip X3 _ hX2 (by omega) Q3).mono ?_
  rintro e' w5 ⟨rfl, hb5⟩
  have e2 : w5.cell? ⟨G, 2, none⟩ = some (.bool b) := by rw [hb5.cell (World.block_lt_of_cell? _ _ d2)]; exact d2
  go_wp2_with fail
  refine (Put_q X3 26 b X4 _ hX3 (by omega) Q4).mono ?_
  rintro e' w6 ⟨rfl, hb6⟩
  go_wp2_with fail
  go_ret2
  exact ⟨rfl, below_then (below_then (below_then hB3 hb4) hb5) hb6⟩
set_option maxHeartbeats 4000000 in
theorem RPack_no (g st : Int) (b ip op : Bool) (i o : Int) (w : World) (wg : (Lit.int .i64 g).wf = true) (wst : (Lit.int .i64 st).wf = true) (wi : (Lit.int .i64 i).wf = true) (wo : (Lit.int .i64 o).wf = true) (hv : ¬ validS g st i o) :
    Calls Try.prog 11 #[.agg #[.int .i64 g, .int .i64 st, .bool b, .bool ip, .bool op, .int .i64 i, .int .i64 o]] w fun e w' => e = .returned (.tuple #[.int .u64 0, .bool false]) ∧ Below w.heap.size w w' := by
  have hB := below_alloc (Below.refl w.heap.size w) (.cells #[.int .i64 g, .int .i64 st, .bool b, .bool ip, .bool op, .int .i64 i, .int .i64 o] 23)
  have HV := Hid.mk' hv
  clear hv wg wst wi wo
  by_cases c1 : o < 0
  · go_enter Try.func11, Try.ntmps11
    go_wp2_with fail
    go_ret2
    exact ⟨rfl, hB⟩
  ·
    by_cases c2 : 4095 < o
    · go_enter Try.func11, Try.ntmps11
      go_wp2_with fail
      go_ret2
      exact ⟨rfl, hB⟩
    ·
      by_cases c3 : i < 0
      · go_enter Try.func11, Try.ntmps11
        go_wp2_with fail
        go_ret2
        exact ⟨rfl, hB⟩
      ·
        by_cases c4 : 4095 < i
        · go_enter Try.func11, Try.ntmps11
          go_wp2_with fail
          go_ret2
          exact ⟨rfl, hB⟩
        ·
          by_cases c5 : st < 0
          · go_enter Try.func11, Try.ntmps11
            go_wp2_with fail
            go_ret2
            exact ⟨rfl, hB⟩
          ·
            by_cases c6 : 7 < st
            · go_enter Try.func11, Try.ntmps11
              go_wp2_with fail
              go_ret2
              exact ⟨rfl, hB⟩
            ·
              by_cases c7 : g < 0
              · go_enter Try.func11, Try.ntmps11
                go_wp2_with fail
                go_ret2
                exact ⟨rfl, hB⟩
              ·
                by_cases c8 : 1073741824 < g
                · go_enter Try.func11, Try.ntmps11
                  go_wp2_with fail
                  go_ret2
                  exact ⟨rfl, hB⟩
                ·
                  exact absurd (show validS g st i o by unfold validS; omega) HV.out

end Go.Proofs.Ytggphjmlnbkngaa
