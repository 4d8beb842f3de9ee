/-
  The walk of the law MarkRows: a word is its slots, marked one by one in either order.
-/
import Derived.Test.YtepbnfekicdlpaaH
namespace Go.Proofs.Ytepbnfekicdlpaa
open Go.RowKit
theorem Hid.mk' {p : Prop} (h : p) : Hid p := h
set_option linter.unusedVariables false
set_option linter.unusedSimpArgs false
/-- A row of slots, marked one by one. -/
def rowW (k : Int) (L : List Int) (x : Nat) : Nat := L.foldl (fun a s => withW a k s) x
theorem rowW_testBit (k : Int) (L : List Int) : ∀ (x i : Nat), (rowW k L x).testBit i = (x.testBit i || L.any fun s => (bitOf k s).testBit i) := by
  induction L with
  | nil => intro x i; simp [rowW]
  | cons s L ih =>
    intro x i
    have : rowW k (s :: L) x = rowW k L (withW x k s) := rfl
    rw [this, ih]
    unfold withW
    rw [Nat.testBit_or, List.any_cons, Bool.or_assoc]
theorem rowW_snoc (k : Int) (L : List Int) (s : Int) (x : Nat) : rowW k (L ++ [s]) x = withW (rowW k L x) k s := by simp [rowW]
theorem rowW_reverse (k : Int) (L : List Int) (x : Nat) : rowW k L.reverse x = rowW k L x := by
  apply Nat.eq_of_testBit_eq
  intro i
  rw [rowW_testBit, rowW_testBit, List.any_reverse]
theorem rowW_lt (k : Int) (L : List Int) : ∀ x : Nat, x < 18446744073709551616 → rowW k L x < 18446744073709551616 := by
  induction L with
  | nil => intro x hx; exact hx
  | cons s L ih => intro x hx; exact ih _ (withW_lt k s hx)
theorem take_snoc {L : List Int} {m : Nat} (h : m < L.length) : L.take (m + 1) = L.take m ++ [L.getD m 0] := by
  rw [List.take_succ_eq_append_getElem h]
  simp [List.getD_eq_getElem?_getD, h]
theorem rev_snoc {L : List Int} {m : Nat} (h : m < L.length) : L.reverse.take (m + 1) = L.reverse.take m ++ [L.getD (L.length - 1 - m) 0] := by
  rw [take_snoc (by simpa using h)]
  congr 2
  simp [List.getD_eq_getElem?_getD, List.getElem?_reverse h]
/-- The slots of a kind of a word. -/
def slotsL (x : Nat) (k : Int) : List Int := but (-1) (upto x k 12)
theorem any_slots (x : Nat) {k : Int} (h0 : 0 ≤ k) (h1 : k ≤ 1) (i : Nat) :
    ((slotsL x k).any fun s => (bitOf k s).testBit i) = (decide (12 * k ≤ (i : Int) ∧ (i : Int) < 12 * k + 12) && x.testBit i) := by
  rw [Bool.eq_iff_iff, List.any_eq_true]
  simp only [Bool.and_eq_true, decide_eq_true_eq]
  constructor
  · rintro ⟨s, hs, hb⟩
    unfold slotsL but upto at hs
    rw [List.mem_filter, List.mem_map] at hs
    obtain ⟨⟨j, hj, rfl⟩, _⟩ := hs
    rw [List.mem_filter] at hj
    have hj1 := List.mem_range.1 hj.1
    have hj2 := hj.2
    have c : 0 ≤ k ∧ k ≤ 1 ∧ 0 ≤ (j : Int) ∧ (j : Int) < 12 := ⟨h0, h1, by omega, by omega⟩
    rw [(of_some c).2, testBit_pow] at hb
    have e : (12 * k + (j : Int)).toNat = i := by simpa using hb
    rw [has_some c, e] at hj2
    exact ⟨by omega, hj2⟩
  · rintro ⟨⟨h2, h3⟩, hb⟩
    have c : 0 ≤ k ∧ k ≤ 1 ∧ 0 ≤ ((i - (12 * k).toNat : Nat) : Int) ∧ ((i - (12 * k).toNat : Nat) : Int) < 12 := ⟨h0, h1, by omega, by omega⟩
    have e : (12 * k + ((i - (12 * k).toNat : Nat) : Int)).toNat = i := by omega
    refine ⟨((i - (12 * k).toNat : Nat) : Int), ?_, by rw [(of_some c).2, e, testBit_pow]; simp⟩
    unfold slotsL but upto
    rw [List.mem_filter, List.mem_map]
    refine ⟨⟨i - (12 * k).toNat, ?_, rfl⟩, by simp⟩
    rw [List.mem_filter]
    exact ⟨List.mem_range.2 (by omega), by rw [has_some c, e]; exact hb⟩
theorem rows_all (x : Nat) : rowW 1 (slotsL x 1) (rowW 0 (slotsL x 0) 0) = x % 16777216 := by
  apply Nat.eq_of_testBit_eq
  intro i
  rw [rowW_testBit, rowW_testBit, any_slots x (by omega) (by omega), any_slots x (by omega) (by omega), show (16777216 : Nat) = 2 ^ 24 from rfl, Nat.testBit_mod_two_pow]
  have : (decide (12 * (0 : Int) ≤ (i : Int) ∧ (i : Int) < 12 * 0 + 12) || decide (12 * (1 : Int) ≤ (i : Int) ∧ (i : Int) < 12 * 1 + 12)) = decide (i < 24) := by
    rw [Bool.eq_iff_iff]; simp; omega
  rw [← this]
  cases x.testBit i <;> simp
/-- The word behind the first kinds. -/
def accW (x : Nat) : Nat → Nat
  | 0 => 0
  | m + 1 => rowW (m : Int) (slotsL x (m : Int)) (accW x m)
theorem accW_lt (x : Nat) : ∀ m, accW x m < 18446744073709551616
  | 0 => by unfold accW; omega
  | m + 1 => rowW_lt _ _ _ (accW_lt x m)
theorem Slots_row (x : Nat) (k : Int) (w : World) (hx : x < 18446744073709551616) : Calls Try.prog 18 #[.int .u64 (x : Int), .int .i64 k] w (RetInts (slotsL x k) w) := Slots_any x k w hx
set_option maxHeartbeats 1000000 in
theorem MarkRows_walk (x : Int) (wx : (Lit.int .u64 x).wf = true) (w : World) :
    Calls Try.prog 7 #[.int .u64 x] w fun e w' => e = .returned (.bool true) ∧ Below w.heap.size w w' := by
  obtain ⟨h0, h1⟩ := u64_bd wx
  obtain ⟨x, rfl⟩ := Int.eq_ofNat_of_zero_le h0
  have hx : x < 18446744073709551616 := by omega
  have hfin : Hid (((accW x 2 : Nat) : Int) = (x : Int) % 16777216) := by
    show _ = _
    have e : accW x 2 = x % 16777216 := rows_all x
    rw [e]; omega
  clear wx h0 h1
  go_enter Try.func7, Try.ntmps7
  go_wp2_with fail
  go_loopw [3, 4, 8] (fun u v i wr => ∃ m : Nat, m ≤ 2 ∧ i = .int .i64 (m : Int) ∧ u = .int .u64 (accW x m : Int) ∧ v = .int .u64 (accW x m : Int) ∧ Below w.heap.size w wr) (fun _ _ i _ => 2 - (intOf i).toNat)
  case atStart => exact ⟨0, by omega, rfl, rfl, rfl, Below.refl _ _⟩
  case round =>
    obtain ⟨m, hm, rfl, rfl, rfl, hB⟩ := hrel
    by_cases hlt : m < 2
    · go_wp2_with (go_at_call 18; refine (Slots_row _ _ _ hx).mono ?_; rintro e w1 ⟨a1, c1, rfl, hi1, hb1⟩)
      have hB1 := below_then hB hb1
      obtain ⟨hl, hml, hwf, hcell⟩ := hi1
      clear hb1 hB hwf hl
      unfold maxLen at hml
      have hacc := accW_lt x m
      have hs : Hid (accW x (m + 1) = rowW (m : Int) (slotsL x (m : Int)) (accW x m)) := rfl
      generalize slotsL x (m : Int) = L at *
      go_loopw [3, 4, 16] (fun u v i wr => ∃ j : Nat, j ≤ L.length ∧ i = .int .i64 (j : Int) ∧ u = .int .u64 (rowW (m : Int) (L.take j) (accW x m) : Int) ∧ v = .int .u64 (rowW (m : Int) (L.reverse.take j) (accW x m) : Int) ∧ Below w1.heap.size w1 wr) (fun _ _ i _ => L.length - (intOf i).toNat)
      case atStart => exact ⟨0, by omega, rfl, rfl, rfl, Below.refl _ _⟩
      case round =>
        obtain ⟨j, hj, rfl, rfl, rfl, hC⟩ := hrel
        by_cases hjl : j < L.length
        · obtain ⟨p, rfl, hp⟩ := hcell (by omega)
          have p1 := hp j hjl
          have p2 := hp (L.length - 1 - j) (by omega)
          have q1 : wr.cell? (p.add j) = some (.int .i64 (L.getD j 0)) := by rw [hC.cell (World.block_lt_of_cell? w1 _ p1)]; exact p1
          have q2 : wr.cell? (p.add (L.length - 1 - j)) = some (.int .i64 (L.getD (L.length - 1 - j) 0)) := by rw [hC.cell (World.block_lt_of_cell? w1 _ p2)]; exact p2
          have b1 := rowW_lt (m : Int) (L.take j) _ hacc
          have b2 := rowW_lt (m : Int) (L.reverse.take j) _ hacc
          have t1 : Hid (rowW (m : Int) (L.take (j + 1)) (accW x m) = withW (rowW (m : Int) (L.take j) (accW x m)) (m : Int) (L.getD j 0)) := by
            show _ = _
            rw [take_snoc hjl, rowW_snoc]
          have t2 : Hid (rowW (m : Int) (L.reverse.take (j + 1)) (accW x m) = withW (rowW (m : Int) (L.reverse.take j) (accW x m)) (m : Int) (L.getD (L.length - 1 - j) 0)) := by
            show _ = _
            rw [rev_snoc hjl, rowW_snoc]
          clear hp p1 p2 hcell
          generalize rowW (m : Int) (L.take j) (accW x m) = X at *
          generalize rowW (m : Int) (L.reverse.take j) (accW x m) = Y at *
          generalize L.getD j 0 = A at *
          generalize L.getD (L.length - 1 - j) 0 = B at *
          generalize hn : L.length = n at *
          have HN := Hid.mk' hn
          clear hn
          go_wp2_with fail
          refine (With_any _ _ _ _ b1).mono ?_; rintro e w2 ⟨rfl, hb2⟩
          have q3 : w2.cell? (p.add (n - 1 - j)) = some (.int .i64 B) := by rw [hb2.cell (World.block_lt_of_cell? wr _ q2)]; exact q2
          go_wp2_with fail
          refine (With_any _ _ _ _ b2).mono ?_; rintro e w3 ⟨rfl, hb3⟩
          go_wp2_with fail
          go_roundw
          case rel => exact ⟨j + 1, by omega, by go_num, by rw [t1.out], by rw [t2.out], below_then (below_then hC hb2) hb3⟩
          case measure => simp [intOf]; omega
        · obtain rfl : j = L.length := by omega
          have t1 : rowW (m : Int) (L.take L.length) (accW x m) = accW x (m + 1) := by rw [List.take_length, hs.out]
          have t2 : rowW (m : Int) (L.reverse.take L.length) (accW x m) = accW x (m + 1) := by
            rw [show L.reverse.take L.length = L.reverse by rw [← List.length_reverse, List.take_length], rowW_reverse, hs.out]
          go_wp2_with fail
          go_roundw
          case rel => exact ⟨m + 1, by omega, by go_num, by first | rfl | rw [t1], by first | rfl | rw [t2], below_then hB1 hC⟩
          case measure => simp [intOf]; omega
    · obtain rfl : m = 2 := by omega
      have hacc := accW_lt x 2
      have hq : (((accW x 2 : Nat) : Int) == (x : Int) % 16777216) = true := by rw [hfin.out]; simp
      go_wp2_with (go_at_call 11; refine (alive_any _).mono ?_; rintro e w4 ⟨rfl, hb4⟩)
      go_ret
      exact ⟨rfl, below_then hB hb4⟩
end Go.Proofs.Ytepbnfekicdlpaa
