/-
  Pack, the status's and the reference's, each under its contract.
-/
import Derived.Test.YtggphjmlnbkngaaE
namespace Go.Proofs.Ytggphjmlnbkngaa
open Go.RowKit
set_option linter.unusedVariables false
set_option linter.unusedSimpArgs false
def bt (b : Bool) : Nat := if b then 1 else 0
theorem bt_le (b : Bool) : bt b ≤ 1 := by cases b <;> decide
theorem bit_q (b : Bool) (B : Nat) (h : Hid (bt b = B)) (w : World) : Calls Try.prog 25 #[.bool b] w fun e w' => e = .returned (.int .u64 (B : Int)) ∧ Below w.heap.size w w' := by
  refine (bit_any b w).mono ?_
  rintro e w' ⟨rfl, hb⟩
  refine ⟨?_, hb⟩
  rw [← h.out]
  cases b <;> rfl
/-- The word of a status that may be. -/
def wordN (g st : Nat) (b ip op : Bool) (i o : Nat) : Nat := 1073741824 * g + 134217728 * st + 67108864 * bt b + 33554432 * bt ip + 16777216 * bt op + 4096 * i + o
/-- A status's value. -/
def statV (g st : Int) (b ip op : Bool) (i o : Int) : Array Value := #[.int .i64 g, .int .i64 st, .bool b, .bool ip, .bool op, .int .i64 i, .int .i64 o]
theorem or64 (k : Nat) (x y : Int) (hy0 : 0 ≤ y) (hy : y % 2 ^ k = 0) (hy1 : y < 18446744073709551616) (hx0 : 0 ≤ x) (hx : x < 2 ^ k) (hx1 : x < 18446744073709551616) : bits .or .u64 x y = x + y := by
  rw [or_comm64, join64 k y x hy0 hy hy1 hx0 hx hx1]
  omega
theorem chain_val (g st B1 B2 B3 i o : Nat) (hg : g ≤ 1073741824) (hst : st ≤ 7) (h1 : B1 ≤ 1) (h2 : B2 ≤ 1) (h3 : B3 ≤ 1) (hi : i ≤ 4095) (ho : o ≤ 4095) :
    bits .or .u64 (bits .or .u64 (bits .or .u64 (bits .or .u64 (bits .or .u64 (bits .or .u64 (o : Int) (i * 4096)) (B3 * 16777216)) (B2 * 33554432)) (B1 * 67108864)) (st * 134217728)) (g * 1073741824) = ((1073741824 * g + 134217728 * st + 67108864 * B1 + 33554432 * B2 + 16777216 * B3 + 4096 * i + o : Nat) : Int) := by
  rw [or64 12 (o : Int) (i * 4096) (by omega) (by omega) (by omega) (by omega) (by omega) (by omega)]
  rw [or64 24 _ (B3 * 16777216) (by omega) (by omega) (by omega) (by omega) (by omega) (by omega)]
  rw [or64 25 _ (B2 * 33554432) (by omega) (by omega) (by omega) (by omega) (by omega) (by omega)]
  rw [or64 26 _ (B1 * 67108864) (by omega) (by omega) (by omega) (by omega) (by omega) (by omega)]
  rw [or64 27 _ (st * 134217728) (by omega) (by omega) (by omega) (by omega) (by omega) (by omega)]
  rw [or64 30 _ (g * 1073741824) (by omega) (by omega) (by omega) (by omega) (by omega) (by omega)]
  omega
theorem tb (x n : Nat) : x.testBit n = decide (x / 2 ^ n % 2 = 1) := Nat.testBit_eq_decide_div_mod_eq
theorem bt_dec (b : Bool) : b = decide (bt b = 1) := by cases b <;> rfl
/-- The parts of the word of a status that may be. -/
theorem parts_word (g st : Nat) (b ip op : Bool) (i o : Nat) (hg : g ≤ 1073741824) (hst : st ≤ 7) (hi : i ≤ 4095) (ho : o ≤ 4095) :
    partsV (wordN g st b ip op i o) = #[.int .i64 (g : Int), .int .i64 (st : Int), .bool b, .bool ip, .bool op, .int .i64 (i : Int), .int .i64 (o : Int)] := by
  have l1 := bt_le b
  have l2 := bt_le ip
  have l3 := bt_le op
  unfold partsV wordN numW
  rw [tb, tb, tb]
  simp only [show pw 30 = 1073741824 from rfl, show pw 32 = 4294967296 from rfl, show pw 27 = 134217728 from rfl, show pw 3 = 8 from rfl, show pw 12 = 4096 from rfl, show pw 0 = 1 from rfl, show (2 ^ 26 : Nat) = 67108864 from rfl, show (2 ^ 25 : Nat) = 33554432 from rfl, show (2 ^ 24 : Nat) = 16777216 from rfl]
  rw [show decide ((1073741824 * g + 134217728 * st + 67108864 * bt b + 33554432 * bt ip + 16777216 * bt op + 4096 * i + o) / 67108864 % 2 = 1) = b by conv => { rhs; rw [bt_dec b] }; exact decide_eq_decide.2 (by omega)]
  rw [show decide ((1073741824 * g + 134217728 * st + 67108864 * bt b + 33554432 * bt ip + 16777216 * bt op + 4096 * i + o) / 33554432 % 2 = 1) = ip by conv => { rhs; rw [bt_dec ip] }; exact decide_eq_decide.2 (by omega)]
  rw [show decide ((1073741824 * g + 134217728 * st + 67108864 * bt b + 33554432 * bt ip + 16777216 * bt op + 4096 * i + o) / 16777216 % 2 = 1) = op by conv => { rhs; rw [bt_dec op] }; exact decide_eq_decide.2 (by omega)]
  rw [show (1073741824 * g + 134217728 * st + 67108864 * bt b + 33554432 * bt ip + 16777216 * bt op + 4096 * i + o) / 1073741824 % 4294967296 = g by omega, show (1073741824 * g + 134217728 * st + 67108864 * bt b + 33554432 * bt ip + 16777216 * bt op + 4096 * i + o) / 134217728 % 8 = st by omega, show (1073741824 * g + 134217728 * st + 67108864 * bt b + 33554432 * bt ip + 16777216 * bt op + 4096 * i + o) / 4096 % 4096 = i by omega, show (1073741824 * g + 134217728 * st + 67108864 * bt b + 33554432 * bt ip + 16777216 * bt op + 4096 * i + o) / 1 % 4096 = o by omega]
theorem wordN_lt {g st : Nat} {b ip op : Bool} {i o : Nat} (hg : g ≤ 1073741824) (hst : st ≤ 7) (hi : i ≤ 4095) (ho : o ≤ 4095) : wordN g st b ip op i o < 18446744073709551616 := by
  have l1 := bt_le b
  have l2 := bt_le ip
  have l3 := bt_le op
  unfold wordN
  omega
theorem Unpack_word (g st : Nat) (b ip op : Bool) (i o : Nat) (X : Nat) (hX : Hid (wordN g st b ip op i o = X)) (w : World) (hg : g ≤ 1073741824) (hst : st ≤ 7) (hi : i ≤ 4095) (ho : o ≤ 4095) :
    Calls Try.prog 13 #[.int .u64 (X : Int)] w fun e w' => e = .returned (.agg #[.int .i64 (g : Int), .int .i64 (st : Int), .bool b, .bool ip, .bool op, .int .i64 (i : Int), .int .i64 (o : Int)]) ∧ Below w.heap.size w w' := by
  have h1 := parts_word g st b ip op i o hg hst hi ho
  have h2 := wordN_lt (b := b) (ip := ip) (op := op) hg hst hi ho
  rw [hX.out] at h1 h2
  rw [← h1]
  exact Unpack_any X w h2
set_option maxHeartbeats 2000000 in
theorem Pack_yes (g st : Nat) (b ip op : Bool) (i o : Nat) (w : World) (hg : g ≤ 1073741824) (hst : st ≤ 7) (hi : i ≤ 4095) (ho : o ≤ 4095) :
    Calls Try.prog 10 #[.agg #[.int .i64 (g : Int), .int .i64 (st : Int), .bool b, .bool ip, .bool op, .int .i64 (i : Int), .int .i64 (o : Int)]] w fun e w' => e = .returned (.tuple #[.int .u64 (wordN g st b ip op i o : Int), .bool true]) ∧ Below w.heap.size w w' := by
  have b1 := blk_new w (.cells #[.int .i64 (g : Int), .int .i64 (st : Int), .bool b, .bool ip, .bool op, .int .i64 (i : Int), .int .i64 (o : Int)] 27)
  have hB := below_alloc (Below.refl w.heap.size w) (.cells #[.int .i64 (g : Int), .int .i64 (st : Int), .bool b, .bool ip, .bool op, .int .i64 (i : Int), .int .i64 (o : Int)] 27)
  obtain ⟨B1, hB1⟩ : ∃ B, bt b = B := ⟨_, rfl⟩
  obtain ⟨B2, hB2⟩ : ∃ B, bt ip = B := ⟨_, rfl⟩
  obtain ⟨B3, hB3⟩ : ∃ B, bt op = B := ⟨_, rfl⟩
  have l1 := bt_le b
  have l2 := bt_le ip
  have l3 := bt_le op
  rw [hB1] at l1
  rw [hB2] at l2
  rw [hB3] at l3
  have E1 := Hid.mk' hB1
  have E2 := Hid.mk' hB2
  have E3 := Hid.mk' hB3
  have hX : wordN g st b ip op i o = 1073741824 * g + 134217728 * st + 67108864 * B1 + 33554432 * B2 + 16777216 * B3 + 4096 * i + o := by
    unfold wordN
    rw [hB1, hB2, hB3]
  have hch := chain_val g st B1 B2 B3 i o hg hst l1 l2 l3 hi ho
  rw [← hX] at hch
  generalize hX2 : wordN g st b ip op i o = X at *
  have HX := Hid.mk' hX2
  have HCH := Hid.mk' hch
  clear hB1 hB2 hB3 hX hch hX2
  have hgd : decide ((1073741824 : Int) < (g : Int)) = false := decide_eq_false (by omega)
  go_enter Try.func10, Try.ntmps10
  go_wp2_with fail
  generalize w.alloc (Obj.cells #[Value.int IntKind.i64 (g : Int), Value.int IntKind.i64 (st : Int), Value.bool b, Value.bool ip, Value.bool op, Value.int IntKind.i64 (i : Int), Value.int IntKind.i64 (o : Int)] 27) = W at *
  have c0 := blk_cell b1 0
  have c1 := blk_cell b1 1
  have c2 := blk_cell b1 2
  have c3 := blk_cell b1 3
  have c4 := blk_cell b1 4
  have c5 := blk_cell b1 5
  have c6 := blk_cell b1 6
  simp at c0 c1 c2 c3 c4 c5 c6
  generalize w.heap.size = G at c0 c1 c2 c3 c4 c5 c6 b1 ⊢
  have g0 := cell_regrown c0
  have g1 := cell_regrown c1
  have g2 := cell_regrown c2
  have g3 := cell_regrown c3
  have g4 := cell_regrown c4
  have g5 := cell_regrown c5
  have g6 := cell_regrown c6
  refine wp_region_quiet_below (by kernel_rfl) (by kernel_rfl) ?_
  repeat (go_big_quiet_step (first | (go_at_call 25; first | exact quiet_call (bit_q b _ E1 _) | exact quiet_call (bit_q ip _ E2 _) | exact quiet_call (bit_q op _ E3 _))))
  refine wpQuiet_nil ?_
  rintro w3 ⟨r3, rfl⟩
  rw [HCH.out]
  have hB3 := below_regrow hB r3.d r3.os
  have c0 := g0 r3.d r3.os
  have c1 := g1 r3.d r3.os
  have c2 := g2 r3.d r3.os
  have c3 := g3 r3.d r3.os
  have c4 := g4 r3.d r3.os
  have c5 := g5 r3.d r3.os
  have c6 := g6 r3.d r3.os
  generalize Go.Sort.grow (redrawn W r3.d) r3.os = W3 at *
  clear g0 g1 g2 g3 g4 g5 g6 hB b1
  have g0 := cell_regrown c0
  have g1 := cell_regrown c1
  have g2 := cell_regrown c2
  have g3 := cell_regrown c3
  have g4 := cell_regrown c4
  have g5 := cell_regrown c5
  have g6 := cell_regrown c6
  go_wp2_with fail
  refine wp_region_quiet_below (by kernel_rfl) (by kernel_rfl) ?_
  repeat (go_big_quiet_step (first | (go_at_call 13; exact quiet_call (Unpack_word g st b ip op i o X HX _ hg hst hi ho))))
  refine wpQuiet_nil ?_
  rintro w4 ⟨r4, rfl⟩
  go_wp2_with fail
  go_ret2
  exact ⟨rfl, below_regrow hB3 _ _⟩
theorem numW_nn (x f m : Nat) : (0 : Int) ≤ (numW x f m : Int) := Int.natCast_nonneg _
theorem Unpack_lit (X : Nat) (w : World) (hX : X < 18446744073709551616) :
    Calls Try.prog 13 #[.int .u64 (X : Int)] w fun e w' => e = .returned (.agg #[.int .i64 (numW X 30 32 : Int), .int .i64 (numW X 27 3 : Int), .bool (X.testBit 26), .bool (X.testBit 25), .bool (X.testBit 24), .int .i64 (numW X 12 12 : Int), .int .i64 (numW X 0 12 : Int)]) ∧ Below w.heap.size w w' := Unpack_any X w hX
/-- A word made by 'or', as a number. -/
def orN (a b : Int) : Nat := (BitVec.ofInt 64 a ||| BitVec.ofInt 64 b).toNat
theorem orN_lt (a b : Int) : orN a b < 18446744073709551616 := (BitVec.ofInt 64 a ||| BitVec.ofInt 64 b).isLt
theorem or_toNat (a b : Int) : bits .or .u64 a b = ((orN a b : Nat) : Int) := by
  have := orN_lt a b
  show IntKind.u64.wrap ((BitVec.ofInt 64 a ||| BitVec.ofInt 64 b).toNat : Int) = _
  exact IntWalk.u64_in _ (by unfold orN at *; omega)
/-- A status that may be. -/
def validS (g st i o : Int) : Prop := 0 ≤ g ∧ g ≤ 1073741824 ∧ 0 ≤ st ∧ st ≤ 7 ∧ 0 ≤ i ∧ i ≤ 4095 ∧ 0 ≤ o ∧ o ≤ 4095
set_option maxHeartbeats 4000000 in
theorem Pack_no (g st : Int) (b ip op : Bool) (i o : Int) (w : World) (wg : (Lit.int .i64 g).wf = true) (wst : (Lit.int .i64 st).wf = true) (wi : (Lit.int .i64 i).wf = true) (wo : (Lit.int .i64 o).wf = true) (hv : ¬ validS g st i o) :
    Calls Try.prog 10 #[.agg #[.int .i64 g, .int .i64 st, .bool b, .bool ip, .bool op, .int .i64 i, .int .i64 o]] w fun e w' => e = .returned (.tuple #[.int .u64 0, .bool false]) ∧ Below w.heap.size w w' := by
  have b1 := blk_new w (.cells #[.int .i64 g, .int .i64 st, .bool b, .bool ip, .bool op, .int .i64 i, .int .i64 o] 27)
  have hB := below_alloc (Below.refl w.heap.size w) (.cells #[.int .i64 g, .int .i64 st, .bool b, .bool ip, .bool op, .int .i64 i, .int .i64 o] 27)
  obtain ⟨wg0, wg1⟩ := i64_bd wg
  obtain ⟨ws0, ws1⟩ := i64_bd wst
  obtain ⟨wi0, wi1⟩ := i64_bd wi
  obtain ⟨wo0, wo1⟩ := i64_bd wo
  clear wg wst wi wo
  have HV := Hid.mk' hv
  clear hv
  obtain ⟨B1, hB1⟩ : ∃ B, bt b = B := ⟨_, rfl⟩
  obtain ⟨B2, hB2⟩ : ∃ B, bt ip = B := ⟨_, rfl⟩
  obtain ⟨B3, hB3⟩ : ∃ B, bt op = B := ⟨_, rfl⟩
  have l1 := bt_le b
  have l2 := bt_le ip
  have l3 := bt_le op
  rw [hB1] at l1
  rw [hB2] at l2
  rw [hB3] at l3
  have E1 := Hid.mk' hB1
  have E2 := Hid.mk' hB2
  have E3 := Hid.mk' hB3
  clear hB1 hB2 hB3
  go_enter Try.func10, Try.ntmps10
  go_wp2_with fail
  generalize w.alloc (Obj.cells #[Value.int IntKind.i64 g, Value.int IntKind.i64 st, Value.bool b, Value.bool ip, Value.bool op, Value.int IntKind.i64 i, Value.int IntKind.i64 o] 27) = W at *
  have c0 := blk_cell b1 0
  have c1 := blk_cell b1 1
  have c2 := blk_cell b1 2
  have c3 := blk_cell b1 3
  have c4 := blk_cell b1 4
  have c5 := blk_cell b1 5
  have c6 := blk_cell b1 6
  simp at c0 c1 c2 c3 c4 c5 c6
  generalize w.heap.size = G at c0 c1 c2 c3 c4 c5 c6 b1 ⊢
  have g0 := cell_regrown c0
  have g1 := cell_regrown c1
  have g2 := cell_regrown c2
  have g3 := cell_regrown c3
  have g4 := cell_regrown c4
  have g5 := cell_regrown c5
  have g6 := cell_regrown c6
  refine wp_region_quiet_below (by kernel_rfl) (by kernel_rfl) ?_
  repeat (go_big_quiet_step (first | (go_at_call 25; first | exact quiet_call (bit_q b _ E1 _) | exact quiet_call (bit_q ip _ E2 _) | exact quiet_call (bit_q op _ E3 _))))
  refine wpQuiet_nil ?_
  rintro w3 ⟨r3, rfl⟩
  rw [or_toNat _ (IntKind.u64.wrap (IntKind.u64.wrap g * 1073741824))]
  generalize hXe : orN _ _ = X
  have hX : X < 18446744073709551616 := by rw [← hXe]; exact orN_lt _ _
  clear hXe
  have hB3 := below_regrow hB r3.d r3.os
  have c0 := g0 r3.d r3.os
  have c1 := g1 r3.d r3.os
  have c2 := g2 r3.d r3.os
  have c3 := g3 r3.d r3.os
  have c4 := g4 r3.d r3.os
  have c5 := g5 r3.d r3.os
  have c6 := g6 r3.d r3.os
  generalize Go.Sort.grow (redrawn W r3.d) r3.os = W3 at *
  clear g0 g1 g2 g3 g4 g5 g6 hB b1
  have g0 := cell_regrown c0
  have g1 := cell_regrown c1
  have g2 := cell_regrown c2
  have g3 := cell_regrown c3
  have g4 := cell_regrown c4
  have g5 := cell_regrown c5
  have g6 := cell_regrown c6
  by_cases hgt : (1073741824 : Int) < g
  · have hgd : decide ((1073741824 : Int) < g) = true := decide_eq_true hgt
    go_wp2_with fail
    refine wp_region_quiet_below (by kernel_rfl) (by kernel_rfl) ?_
    repeat (go_big_quiet_step (first | (go_at_call 13; exact quiet_call (Unpack_lit X _ hX))))
    refine wpQuiet_nil ?_
    rintro w4 ⟨r4, rfl⟩
    go_wp2_with fail
    go_ret2
    exact ⟨rfl, below_regrow hB3 _ _⟩
  have hgd : decide ((1073741824 : Int) < g) = false := decide_eq_false hgt
  have hbad : g < 0 ∨ (st < 0 ∨ 7 < st) ∨ (i < 0 ∨ 4095 < i) ∨ (o < 0 ∨ 4095 < o) := by
    have hv := HV.out
    unfold validS at hv
    omega
  have n1 := numW_nn X 30 32
  have n2 := numW_lt X 27 3
  have n3 := numW_lt X 12 12
  have n4 := numW_lt X 0 12
  have m2 := numW_nn X 27 3
  have m3 := numW_nn X 12 12
  have m4 := numW_nn X 0 12
  rw [show pw 3 = 8 from rfl] at n2
  rw [show pw 12 = 4096 from rfl] at n3 n4
  rcases hbad with h | h | h | h
  · have q : ((numW X 30 32 : Int) == g) = false := by simp; omega
    clear h n1 n2 n3 n4 m2 m3 m4
    go_wp2_with fail
    refine wp_region_quiet_below (by kernel_rfl) (by kernel_rfl) ?_
    repeat (go_big_quiet_step (first | (go_at_call 13; exact quiet_call (Unpack_lit X _ hX))))
    refine wpQuiet_nil ?_
    rintro w4 ⟨r4, rfl⟩
    go_wp2_with fail
    go_ret2
    exact ⟨rfl, below_regrow hB3 _ _⟩
  · have q : ((numW X 27 3 : Int) == st) = false := by simp; omega
    clear h n1 n2 n3 n4 m2 m3 m4
    go_wp2_with fail
    refine wp_region_quiet_below (by kernel_rfl) (by kernel_rfl) ?_
    repeat (go_big_quiet_step (first | (go_at_call 13; exact quiet_call (Unpack_lit X _ hX))))
    refine wpQuiet_nil ?_
    rintro w4 ⟨r4, rfl⟩
    go_wp2_with fail
    go_ret2
    exact ⟨rfl, below_regrow hB3 _ _⟩
  · have q : ((numW X 12 12 : Int) == i) = false := by simp; omega
    clear h n1 n2 n3 n4 m2 m3 m4
    go_wp2_with fail
    refine wp_region_quiet_below (by kernel_rfl) (by kernel_rfl) ?_
    repeat (go_big_quiet_step (first | (go_at_call 13; exact quiet_call (Unpack_lit X _ hX))))
    refine wpQuiet_nil ?_
    rintro w4 ⟨r4, rfl⟩
    go_wp2_with fail
    go_ret2
    exact ⟨rfl, below_regrow hB3 _ _⟩
  · have q : ((numW X 0 12 : Int) == o) = false := by simp; omega
    clear h n1 n2 n3 n4 m2 m3 m4
    go_wp2_with fail
    refine wp_region_quiet_below (by kernel_rfl) (by kernel_rfl) ?_
    repeat (go_big_quiet_step (first | (go_at_call 13; exact quiet_call (Unpack_lit X _ hX))))
    refine wpQuiet_nil ?_
    rintro w4 ⟨r4, rfl⟩
    go_wp2_with fail
    go_ret2
    exact ⟨rfl, below_regrow hB3 _ _⟩
end Go.Proofs.Ytggphjmlnbkngaa
