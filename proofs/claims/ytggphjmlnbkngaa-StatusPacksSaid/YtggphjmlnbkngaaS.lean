/-
  The walk of the law StatusOrder: slots laid in either order, slots dropped in either order.
-/
import Derived.Test.YtggphjmlnbkngaaR
import Derived.BigRegion
namespace Go.Proofs.Ytggphjmlnbkngaa
open Go.RowKit
set_option linter.unusedVariables false
set_option linter.unusedSimpArgs false
def laysW (L : List (Int × Int)) (x : Nat) : Nat := L.foldl (fun a p => withW a p.1 p.2) x
def dropsW (g : Bool) (L : List (Int × Int)) (x : Nat) : Nat := L.foldl (fun a p => dropW a p.2 g) x
theorem laysW_testBit (L : List (Int × Int)) : ∀ (x i : Nat), (laysW L x).testBit i = (x.testBit i || L.any fun p => (bitOf p.1 p.2).testBit i) := by
  induction L with
  | nil => intro x i; simp [laysW]
  | cons s L ih =>
    intro x i
    have : laysW (s :: L) x = laysW L (withW x s.1 s.2) := rfl
    rw [this, ih]
    unfold withW
    rw [Nat.testBit_or, List.any_cons, Bool.or_assoc]
/-- The places that a slot clears. -/
def cl (s : Int) (i : Nat) : Bool := decide (0 ≤ s ∧ s < 12) && (decide (s.toNat = i) || decide (12 + s.toNat = i))
theorem dropW_bit' (x : Nat) (s : Int) (g : Bool) (i : Nat) :
    (dropW x s g).testBit i = ((x.testBit i && !cl s i) || (g && hasW x 0 s && decide (24 = i)) || (g && hasW x 1 s && decide (25 = i))) := by
  by_cases h : 0 ≤ s ∧ s < 12
  · obtain ⟨n, rfl⟩ := Int.eq_ofNat_of_zero_le h.1
    rw [dropW_bit x n g i (by omega), has_some (by omega), has_some (by omega), show (12 * 0 + (n : Int)).toNat = n by omega, show (12 * 1 + (n : Int)).toNat = 12 + n by omega]
    unfold cl
    rw [decide_eq_true h, show ((n : Int)).toNat = n by omega, Bool.true_and, Bool.not_or, Bool.and_assoc]
  · rw [drop_none x g h, has_none (k := 0) x (by omega), has_none (k := 1) x (by omega)]
    unfold cl
    rw [decide_eq_false h]
    simp
theorem has_drop' (x : Nat) (k s t : Int) (g : Bool) (h0 : 0 ≤ k) (h1 : k ≤ 1) : hasW (dropW x s g) k t = (hasW x k t && !decide (s = t)) := by
  by_cases h : 0 ≤ t ∧ t < 12
  · rw [has_some ⟨h0, h1, h⟩, has_some ⟨h0, h1, h⟩, dropW_bit']
    have n2 : ¬ 24 = (12 * k + t).toNat := by omega
    have n3 : ¬ 25 = (12 * k + t).toNat := by omega
    rw [decide_eq_false n2, decide_eq_false n3, Bool.and_false, Bool.and_false, Bool.or_false, Bool.or_false]
    congr 2
    unfold cl
    rcases (by omega : k = 0 ∨ k = 1) with rfl | rfl <;> rw [Bool.eq_iff_iff] <;> simp <;> omega
  · rw [has_none x (by omega), has_none _ (by omega)]
    rfl
theorem any_keep (k s : Int) (x : Nat) (L : List (Int × Int)) (h : hasW x k s = false) : (L.any fun p => hasW x k p.2 && !decide (s = p.2)) = L.any fun p => hasW x k p.2 := by
  congr 1
  funext p
  by_cases e : s = p.2
  · rw [← e, h]; rfl
  · simp [e]
theorem cl24 (s : Int) : cl s 24 = false := by unfold cl; simp; omega
theorem cl25 (s : Int) : cl s 25 = false := by unfold cl; simp; omega
theorem any_false {L : List (Int × Int)} {f : Int × Int → Bool} (h : ∀ p, f p = false) : L.any f = false := by
  rw [List.any_eq_false]
  intro p _
  rw [h p]
  simp
theorem dropsW_bit (g : Bool) (L : List (Int × Int)) : ∀ (x i : Nat), (dropsW g L x).testBit i = ((x.testBit i && !(L.any fun p => cl p.2 i)) || (g && (L.any fun p => hasW x 0 p.2) && decide (24 = i)) || (g && (L.any fun p => hasW x 1 p.2) && decide (25 = i))) := by
  induction L with
  | nil => intro x i; simp [dropsW]
  | cons p L ih =>
    intro x i
    have e : dropsW g (p :: L) x = dropsW g L (dropW x p.2 g) := rfl
    rw [e, ih, dropW_bit']
    have e0 : (fun q : Int × Int => hasW (dropW x p.2 g) 0 q.2) = fun q => hasW x 0 q.2 && !decide (p.2 = q.2) := by
      funext q; exact has_drop' x 0 p.2 q.2 g (by omega) (by omega)
    have e1 : (fun q : Int × Int => hasW (dropW x p.2 g) 1 q.2) = fun q => hasW x 1 q.2 && !decide (p.2 = q.2) := by
      funext q; exact has_drop' x 1 p.2 q.2 g (by omega) (by omega)
    rw [e0, e1, List.any_cons, List.any_cons, List.any_cons]
    by_cases c1 : 24 = i
    · subst c1
      rw [cl24, any_false (L := L) (f := fun p => cl p.2 24) (fun p => cl24 p.2)]
      simp only [decide_true, show decide (25 = 24) = false from rfl, Bool.and_false, Bool.or_false, Bool.and_true, Bool.not_false]
      cases hh : hasW x 0 p.2 with
      | true => cases g <;> cases x.testBit 24 <;> simp
      | false => rw [any_keep 0 p.2 x L hh]; simp
    · by_cases c2 : 25 = i
      · subst c2
        rw [cl25, any_false (L := L) (f := fun p => cl p.2 25) (fun p => cl25 p.2)]
        simp only [decide_true, show decide (24 = 25) = false from rfl, Bool.and_false, Bool.or_false, Bool.and_true, Bool.not_false]
        cases hh : hasW x 1 p.2 with
        | true => cases g <;> cases x.testBit 25 <;> simp
        | false => rw [any_keep 1 p.2 x L hh]; simp
      · rw [decide_eq_false c1, decide_eq_false c2]
        simp only [Bool.and_false, Bool.or_false, Bool.not_or, Bool.and_assoc]
theorem laysW_snoc (L : List (Int × Int)) (p : Int × Int) (x : Nat) : laysW (L ++ [p]) x = withW (laysW L x) p.1 p.2 := by simp [laysW]
theorem dropsW_snoc (g : Bool) (L : List (Int × Int)) (p : Int × Int) (x : Nat) : dropsW g (L ++ [p]) x = dropW (dropsW g L x) p.2 g := by simp [dropsW]
theorem laysW_reverse (L : List (Int × Int)) (x : Nat) : laysW L.reverse x = laysW L x := by
  apply Nat.eq_of_testBit_eq
  intro i
  rw [laysW_testBit, laysW_testBit, List.any_reverse]
theorem dropsW_reverse (g : Bool) (L : List (Int × Int)) (x : Nat) : dropsW g L.reverse x = dropsW g L x := by
  apply Nat.eq_of_testBit_eq
  intro i
  rw [dropsW_bit, dropsW_bit, List.any_reverse, List.any_reverse, List.any_reverse]
theorem laysW_lt (L : List (Int × Int)) : ∀ x : Nat, x < 18446744073709551616 → laysW L x < 18446744073709551616 := by
  induction L with
  | nil => intro x hx; exact hx
  | cons s L ih => intro x hx; exact ih _ (withW_lt _ _ hx)
theorem dropsW_lt (g : Bool) (L : List (Int × Int)) : ∀ x : Nat, x < 18446744073709551616 → dropsW g L x < 18446744073709551616 := by
  induction L with
  | nil => intro x hx; exact hx
  | cons s L ih => intro x hx; exact ih _ (dropW_lt _ _ hx)
theorem take_snoc2 {L : List (Int × Int)} {m : Nat} (h : m < L.length) : L.take (m + 1) = L.take m ++ [L.getD m (0, 0)] := by
  rw [List.take_succ_eq_append_getElem h]
  simp [List.getD_eq_getElem?_getD, h]
theorem rev_snoc2 {L : List (Int × Int)} {m : Nat} (h : m < L.length) : L.reverse.take (m + 1) = L.reverse.take m ++ [L.getD (L.length - 1 - m) (0, 0)] := by
  rw [take_snoc2 (by simpa using h)]
  congr 2
  simp [List.getD_eq_getElem?_getD, List.getElem?_reverse h]
/-- Two boxes, laid one behind the other. -/
theorem two_boxes {w wr : World} (hB : Below w.heap.size w wr) (t : TypeId) (a b c d : Value) :
    let W := ((wr.alloc (.cells #[a, b] t)).alloc (.cells #[c, d] t)).drew
    Below w.heap.size w W ∧ W.cell? ⟨wr.heap.size, 0, none⟩ = some a ∧ W.cell? ⟨wr.heap.size, 1, none⟩ = some b ∧ W.cell? ⟨wr.heap.size + 1, 0, none⟩ = some c ∧ W.cell? ⟨wr.heap.size + 1, 1, none⟩ = some d := by
  have k1 := blk_drew (blk_alloc (blk_new wr (.cells #[a, b] t)) (.cells #[c, d] t))
  have k2 := blk_drew (blk_new (wr.alloc (.cells #[a, b] t)) (.cells #[c, d] t))
  have e : (wr.alloc (.cells #[a, b] t)).heap.size = wr.heap.size + 1 := by simp
  rw [e] at k2
  exact ⟨below_drew (below_alloc (below_alloc hB _) _), blk_cell k1 0, blk_cell k1 1, blk_cell k2 0, blk_cell k2 1⟩
set_option maxHeartbeats 2000000 in
theorem StatusOrder_walk (x : Int) (wx : (Lit.int .u64 x).wf = true) (a : Option Addr) (len cap : Nat) (zs : List (Int × Int)) (g : Bool) (w : World) (hz : IsPairs w a len zs) :
    Calls Try.prog 9 #[.int .u64 x, .slice a len cap, .bool g] w fun e w' => e = .returned (.bool true) ∧ Below w.heap.size w w' := by
  obtain ⟨h0, h1⟩ := u64_bd wx
  obtain ⟨x, rfl⟩ := Int.eq_ofNat_of_zero_le h0
  have hx : x < 18446744073709551616 := by omega
  clear wx h0 h1
  by_cases hlen : (100 : Int) < (len : Int)
  · clear hz
    go_enter Try.func9, Try.ntmps9
    go_wp2_with (go_at_call 12; refine (alive_any _).mono ?_; rintro e w4 ⟨rfl, hb4⟩)
    go_ret
    exact ⟨rfl, hb4⟩
  · obtain ⟨hzl, hzm, hzw, hzc⟩ := hz
    clear hzm hzw
    have hlen' : len ≤ 100 := by omega
    clear hlen
    go_enter Try.func9, Try.ntmps9
    go_wp2_with fail
    go_loopw [7, 8, 9, 10, 24] (fun p q r t i wr => ∃ m : Nat, m ≤ len ∧ i = .int .i64 (m : Int) ∧ p = .int .u64 (laysW (zs.take m) x : Int) ∧ q = .int .u64 (laysW (zs.reverse.take m) x : Int) ∧ r = .int .u64 (dropsW g (zs.take m) x : Int) ∧ t = .int .u64 (dropsW g (zs.reverse.take m) x : Int) ∧ Below w.heap.size w wr) (fun _ _ _ _ i _ => len - (intOf i).toNat)
    case atStart => exact ⟨0, by omega, rfl, rfl, rfl, rfl, rfl, Below.refl _ _⟩
    case round =>
      obtain ⟨m, hm, rfl, rfl, rfl, rfl, rfl, hB⟩ := hrel
      by_cases hlt : m < len
      · obtain ⟨p, rfl, hp⟩ := hzc (by omega)
        obtain ⟨p1, p2⟩ := hp m hlt
        obtain ⟨p3, p4⟩ := hp (len - 1 - m) (by omega)
        have q1 : wr.cell? (p.add (m * 2)) = some (.int .i64 (zs.getD m (0, 0)).1) := by rw [hB.cell (World.block_lt_of_cell? w _ p1)]; exact p1
        have q2 : wr.cell? (p.add (m * 2 + 1)) = some (.int .i64 (zs.getD m (0, 0)).2) := by rw [hB.cell (World.block_lt_of_cell? w _ p2)]; exact p2
        have q3 : wr.cell? (p.add ((len - 1 - m) * 2)) = some (.int .i64 (zs.getD (len - 1 - m) (0, 0)).1) := by rw [hB.cell (World.block_lt_of_cell? w _ p3)]; exact p3
        have q4 : wr.cell? (p.add ((len - 1 - m) * 2 + 1)) = some (.int .i64 (zs.getD (len - 1 - m) (0, 0)).2) := by rw [hB.cell (World.block_lt_of_cell? w _ p4)]; exact p4
        rw [← add_add'] at q2 q4
        replace q2 : wr.cell? ⟨(p.add (m * 2)).block, (p.add (m * 2)).off + 1, none⟩ = some (.int .i64 (zs.getD m (0, 0)).2) := q2
        replace q4 : wr.cell? ⟨(p.add ((len - 1 - m) * 2)).block, (p.add ((len - 1 - m) * 2)).off + 1, none⟩ = some (.int .i64 (zs.getD (len - 1 - m) (0, 0)).2) := q4
        have r1 : ∀ o, (wr.alloc o).cell? (p.add (m * 2)) = some (.int .i64 (zs.getD m (0, 0)).1) := fun o => by rw [World.cell?_alloc_lt _ _ _ (World.block_lt_of_cell? wr _ q1)]; exact q1
        have r2 : ∀ o, (wr.alloc o).cell? ⟨(p.add (m * 2)).block, (p.add (m * 2)).off + 1, none⟩ = some (.int .i64 (zs.getD m (0, 0)).2) := fun o => by rw [World.cell?_alloc_lt _ _ _ (World.block_lt_of_cell? wr _ q2)]; exact q2
        have r3 : ∀ o, (wr.alloc o).cell? (p.add ((len - 1 - m) * 2)) = some (.int .i64 (zs.getD (len - 1 - m) (0, 0)).1) := fun o => by rw [World.cell?_alloc_lt _ _ _ (World.block_lt_of_cell? wr _ q3)]; exact q3
        have r4 : ∀ o, (wr.alloc o).cell? ⟨(p.add ((len - 1 - m) * 2)).block, (p.add ((len - 1 - m) * 2)).off + 1, none⟩ = some (.int .i64 (zs.getD (len - 1 - m) (0, 0)).2) := fun o => by rw [World.cell?_alloc_lt _ _ _ (World.block_lt_of_cell? wr _ q4)]; exact q4
        have s1 : ∀ o o', ((wr.alloc o).alloc o').cell? (p.add (m * 2)) = some (.int .i64 (zs.getD m (0, 0)).1) := fun o o' => by rw [World.cell?_alloc_lt _ _ _ (World.block_lt_of_cell? _ _ (r1 o))]; exact r1 o
        have s2 : ∀ o o', ((wr.alloc o).alloc o').cell? ⟨(p.add (m * 2)).block, (p.add (m * 2)).off + 1, none⟩ = some (.int .i64 (zs.getD m (0, 0)).2) := fun o o' => by rw [World.cell?_alloc_lt _ _ _ (World.block_lt_of_cell? _ _ (r2 o))]; exact r2 o
        have s3 : ∀ o o', ((wr.alloc o).alloc o').cell? (p.add ((len - 1 - m) * 2)) = some (.int .i64 (zs.getD (len - 1 - m) (0, 0)).1) := fun o o' => by rw [World.cell?_alloc_lt _ _ _ (World.block_lt_of_cell? _ _ (r3 o))]; exact r3 o
        have s4 : ∀ o o', ((wr.alloc o).alloc o').cell? ⟨(p.add ((len - 1 - m) * 2)).block, (p.add ((len - 1 - m) * 2)).off + 1, none⟩ = some (.int .i64 (zs.getD (len - 1 - m) (0, 0)).2) := fun o o' => by rw [World.cell?_alloc_lt _ _ _ (World.block_lt_of_cell? _ _ (r4 o))]; exact r4 o
        clear hp p1 p2 p3 p4 hzc
        have b1 := laysW_lt (zs.take m) _ hx
        have b2 := laysW_lt (zs.reverse.take m) _ hx
        have b3 := dropsW_lt g (zs.take m) _ hx
        have b4 := dropsW_lt g (zs.reverse.take m) _ hx
        have t1 : Hid (laysW (zs.take (m + 1)) x = withW (laysW (zs.take m) x) (zs.getD m (0, 0)).1 (zs.getD m (0, 0)).2) := by
          show _ = _
          rw [take_snoc2 (by omega), laysW_snoc]
        have t2 : Hid (laysW (zs.reverse.take (m + 1)) x = withW (laysW (zs.reverse.take m) x) (zs.getD (len - 1 - m) (0, 0)).1 (zs.getD (len - 1 - m) (0, 0)).2) := by
          show _ = _
          rw [rev_snoc2 (by omega), laysW_snoc, hzl]
        have t3 : Hid (dropsW g (zs.take (m + 1)) x = dropW (dropsW g (zs.take m) x) (zs.getD m (0, 0)).2 g) := by
          show _ = _
          rw [take_snoc2 (by omega), dropsW_snoc]
        have t4 : Hid (dropsW g (zs.reverse.take (m + 1)) x = dropW (dropsW g (zs.reverse.take m) x) (zs.getD (len - 1 - m) (0, 0)).2 g) := by
          show _ = _
          rw [rev_snoc2 (by omega), dropsW_snoc, hzl]
        generalize laysW (zs.take m) x = X1 at *
        generalize laysW (zs.reverse.take m) x = X2 at *
        generalize dropsW g (zs.take m) x = X3 at *
        generalize dropsW g (zs.reverse.take m) x = X4 at *
        generalize (zs.getD m (0, 0)).1 = A1 at *
        generalize (zs.getD m (0, 0)).2 = A2 at *
        generalize (zs.getD (len - 1 - m) (0, 0)).1 = B1 at *
        generalize (zs.getD (len - 1 - m) (0, 0)).2 = B2 at *
        have HZ := Hid.mk' hzl
        clear hzl
        go_wp2_with fail
        go_region
        all_goals clear q1 q2 q3 q4 r1 r2 r3 r4 s1 s2 s3 s4
        · obtain ⟨hW, c1, c2, c3, c4⟩ := two_boxes hB 40 (.int .i64 A1) (.int .i64 A2) (.int .i64 B1) (.int .i64 B2)
          generalize ((wr.alloc (Obj.cells #[Value.int IntKind.i64 A1, Value.int IntKind.i64 A2] 40)).alloc (Obj.cells #[Value.int IntKind.i64 B1, Value.int IntKind.i64 B2] 40)).drew = W at *
          have g1 := cell_regrown c1
          have g2 := cell_regrown c2
          have g3 := cell_regrown c3
          have g4 := cell_regrown c4
          generalize wr.heap.size = G at *
          go_wp2_with fail
          refine wp_region_quiet_below (by kernel_rfl) (by kernel_rfl) ?_
          repeat (go_big_quiet_step (first | (go_at_call 17; exact quiet_call (With_any _ _ _ _ (by assumption)))))
          refine wpQuiet_nil ?_
          rintro w3 ⟨r3, rfl⟩
          have hW3 := below_regrow hW r3.d r3.os
          have f2 := g2 r3.d r3.os
          have f4 := g4 r3.d r3.os
          generalize Go.Sort.grow (redrawn W r3.d) r3.os = W3 at *
          clear g1 g2 g3 g4 c1 c2 c3 c4 hW hB
          have g2 := cell_regrown f2
          have g4 := cell_regrown f4
          go_wp2_with fail
          refine wp_region_quiet_below (by kernel_rfl) (by kernel_rfl) ?_
          repeat (go_big_quiet_step (first | (go_at_call 23; exact quiet_call (Drop_any _ _ _ _ (by assumption)))))
          refine wpQuiet_nil ?_
          rintro w5 ⟨r5, rfl⟩
          have hW5 := below_regrow hW3 r5.d r5.os
          go_wp2_with fail
          go_roundw
          case rel => exact ⟨m + 1, by omega, by go_num, by rw [t1.out], by rw [t2.out], by rw [t3.out], by rw [t4.out], hW5⟩
          case measure => simp [intOf]; omega
        · obtain ⟨hW, c3, c4, c1, c2⟩ := two_boxes hB 40 (.int .i64 B1) (.int .i64 B2) (.int .i64 A1) (.int .i64 A2)
          generalize ((wr.alloc (Obj.cells #[Value.int IntKind.i64 B1, Value.int IntKind.i64 B2] 40)).alloc (Obj.cells #[Value.int IntKind.i64 A1, Value.int IntKind.i64 A2] 40)).drew = W at *
          have g1 := cell_regrown c1
          have g2 := cell_regrown c2
          have g3 := cell_regrown c3
          have g4 := cell_regrown c4
          generalize wr.heap.size = G at *
          go_wp2_with fail
          refine wp_region_quiet_below (by kernel_rfl) (by kernel_rfl) ?_
          repeat (go_big_quiet_step (first | (go_at_call 17; exact quiet_call (With_any _ _ _ _ (by assumption)))))
          refine wpQuiet_nil ?_
          rintro w3 ⟨r3, rfl⟩
          have hW3 := below_regrow hW r3.d r3.os
          have f2 := g2 r3.d r3.os
          have f4 := g4 r3.d r3.os
          generalize Go.Sort.grow (redrawn W r3.d) r3.os = W3 at *
          clear g1 g2 g3 g4 c1 c2 c3 c4 hW hB
          have g2 := cell_regrown f2
          have g4 := cell_regrown f4
          go_wp2_with fail
          refine wp_region_quiet_below (by kernel_rfl) (by kernel_rfl) ?_
          repeat (go_big_quiet_step (first | (go_at_call 23; exact quiet_call (Drop_any _ _ _ _ (by assumption)))))
          refine wpQuiet_nil ?_
          rintro w5 ⟨r5, rfl⟩
          have hW5 := below_regrow hW3 r5.d r5.os
          go_wp2_with fail
          go_roundw
          case rel => exact ⟨m + 1, by omega, by go_num, by rw [t1.out], by rw [t2.out], by rw [t3.out], by rw [t4.out], hW5⟩
          case measure => simp [intOf]; omega
      · obtain rfl : m = len := by omega
        have t1 : laysW (zs.take m) x = laysW (zs.reverse.take m) x := by
          rw [← hzl, List.take_length, show zs.reverse.take zs.length = zs.reverse by rw [← List.length_reverse, List.take_length], laysW_reverse]
        have t2 : dropsW g (zs.take m) x = dropsW g (zs.reverse.take m) x := by
          rw [← hzl, List.take_length, show zs.reverse.take zs.length = zs.reverse by rw [← List.length_reverse, List.take_length], dropsW_reverse]
        rw [t1, t2]
        clear t1 t2 hzc
        generalize laysW (zs.reverse.take m) x = X at *
        generalize dropsW g (zs.reverse.take m) x = Y at *
        have HZ := Hid.mk' hzl
        clear hzl
        go_wp2_with (go_at_call 12; refine (alive_any _).mono ?_; rintro e w4 ⟨rfl, hb4⟩)
        go_ret
        exact ⟨rfl, below_then hB hb4⟩
end Go.Proofs.Ytggphjmlnbkngaa
