/-
  The reference's row of the slots that are marked, and whether two rows are the same.
-/
import Derived.Test.YtepbnfekicdlpaaD
namespace Go.Proofs.Ytepbnfekicdlpaa
open Go.RowKit
set_option linter.unusedVariables false
set_option linter.unusedSimpArgs false
/-- The slots below m that are marked, but for one. -/
theorem but_upto_hit {x : Nat} {k s : Int} {m : Nat} (h : hasW x k (m : Int) = true) (h' : (m : Int) ≠ s) : but s (upto x k (m + 1)) = but s (upto x k m) ++ [(m : Int)] := by
  rw [upto_hit h, but_hit _ h']
theorem but_upto_same {x : Nat} {k s : Int} {m : Nat} (h : hasW x k (m : Int) = true) (h' : (m : Int) = s) : but s (upto x k (m + 1)) = but s (upto x k m) := by
  rw [upto_hit h, but_miss _ h']
theorem but_le (x : Nat) (k s : Int) (m : Nat) : (but s (upto x k m)).length ≤ m := Nat.le_trans (List.length_filter_le _ _) (upto_le x k m)
set_option maxHeartbeats 1000000 in
theorem ROthers_any (x : Nat) (k s : Int) (w : World) (hx : x < 18446744073709551616) :
    Calls Try.prog 19 #[.int .u64 (x : Int), .int .i64 k, .int .i64 s] w (RetInts (but s (upto x k 12)) w) := by
  obtain ⟨i0, hi, hz0, hz1, hz2⟩ := info_parts Try.info3
  go_enter Try.func19, Try.ntmps19
  go_wp2
  go_loopw [7, 8] (fun v i wr => ∃ m : Nat, m ≤ 12 ∧ i = .int .i64 (m : Int) ∧ wr.ownsRow w.heap.size 3 1 v (but s (upto x k m)).length ((but s (upto x k m)).map (Value.int .i64)) ∧ Below w.heap.size w wr) (fun _ i _ => 12 - (intOf i).toNat)
  case atStart => exact ⟨0, by omega, rfl, World.ownsRow_nil _ _ _ _, Below.refl _ _⟩
  case round =>
    obtain ⟨m, hm, rfl, hown, hB⟩ := hrel
    by_cases hlt : m < 12
    · have hle := but_le x k s m
      cases hb : hasW x k (m : Int) with
      | true =>
        cases hs : ((m : Int) != s) with
        | true =>
          have hne : (m : Int) ≠ s := by simpa using hs
          go_wp2_with (first
            | (go_at_call 13; refine (RHas_any _ _ _ _ hx).mono ?_; rintro e w1 ⟨rfl, hb1⟩; have HB1 := below_then hB hb1; have hown1 := hown.kept (⟨hb1.os, hb1.tape, hb1.output, hb1.size, fun i hi _ => hb1.block i hi⟩ : wr.grownBy w1 none) (Classical.em _))
            | (at_builtin; refine wpList_append_own _ rfl _ _ 29 rfl w.heap.size 3 i0 (.int .i64 0) 1 8 Try.underlying29 hi hz0 hz1 hz2 rfl (by decide) _ _ _ rfl (hown1.alloc _) ⟨w1.heap.size, 0, none⟩ 1 1 [.int .i64 (m : Int)] rfl rfl (cell_one_new _ _ _) (by simp [Value.oneCell']) (by unfold maxLen; omega) (by omega) (by have := HB1.size; simp; omega) ?_; intro v' w2 hown' hgrow _))
          have HB2 : Below w.heap.size w w2 := (below_alloc HB1 _).grown hgrow (below_alloc HB1 _).size (fun i e => own_base hown1 i e)
          go_roundw
          case rel => exact ⟨m + 1, by omega, by go_num, by rw [but_upto_hit hb hne]; simpa using hown', HB2⟩
          case measure => simp [intOf]; omega
        | false =>
          go_wp2_with (go_at_call 13; refine (RHas_any _ _ _ _ hx).mono ?_; rintro e w1 ⟨rfl, hb1⟩; have HB1 := below_then hB hb1; have hown1 := hown.kept (⟨hb1.os, hb1.tape, hb1.output, hb1.size, fun i hi _ => hb1.block i hi⟩ : wr.grownBy w1 none) (Classical.em _))
          go_roundw
          case rel => exact ⟨m + 1, by omega, by go_num, by rw [but_upto_same hb (by simpa using hs)]; exact hown1, HB1⟩
          case measure => simp [intOf]; omega
      | false =>
        go_wp2_with (go_at_call 13; refine (RHas_any _ _ _ _ hx).mono ?_; rintro e w1 ⟨rfl, hb1⟩; have HB1 := below_then hB hb1; have hown1 := hown.kept (⟨hb1.os, hb1.tape, hb1.output, hb1.size, fun i hi _ => hb1.block i hi⟩ : wr.grownBy w1 none) (Classical.em _))
        go_roundw
        case rel => exact ⟨m + 1, by omega, by go_num, by rw [upto_miss hb]; exact hown1, HB1⟩
        case measure => simp [intOf]; omega
    · obtain rfl : m = 12 := by omega
      go_wp2
      go_ret
      exact retInts_of rfl hown (but_wf s (upto_wf x k 12 (by omega))) hB
/-- Two rows of numbers that hold the same. -/
theorem Same_yes (L : List Int) (a b : Option Addr) (c d : Nat) (w : World) (ha : IsInts .i64 w a L.length L) (hb : IsInts .i64 w b L.length L) :
    Calls Try.prog 17 #[.slice a L.length c, .slice b L.length d] w fun e w' => e = .returned (.bool true) ∧ Below w.heap.size w w' := by
  obtain ⟨_, hm, hwf, hca⟩ := ha
  obtain ⟨_, _, _, hcb⟩ := hb
  unfold maxLen at hm
  generalize hn : L.length = n at *
  have HN : Hid (L.length = n) := hn
  clear hn
  go_enter Try.func17, Try.ntmps17
  go_wp2
  go_loopw [5] (fun i wr => ∃ m : Nat, m ≤ n ∧ i = .int .i64 (m : Int) ∧ Below w.heap.size w wr) (fun i _ => n - (intOf i).toNat)
  case atStart => exact ⟨0, by omega, rfl, Below.refl _ _⟩
  case round =>
    obtain ⟨m, hmn, rfl, hB⟩ := hrel
    by_cases hlt : m < n
    · obtain ⟨x, rfl, hx⟩ := hca (by omega)
      obtain ⟨y, rfl, hy⟩ := hcb (by omega)
      have hx' := hx m hlt
      have hy' := hy m hlt
      have cx : wr.cell? (x.add m) = some (.int .i64 (L.getD m 0)) := by rw [hB.cell (World.block_lt_of_cell? w _ hx')]; exact hx'
      have cy : wr.cell? (y.add m) = some (.int .i64 (L.getD m 0)) := by rw [hB.cell (World.block_lt_of_cell? w _ hy')]; exact hy'
      clear hx hy hx' hy' hca hcb
      generalize L.getD m 0 = z at cx cy
      go_wp2
      go_quiet (fail)
      go_wp2
      go_roundw
      case rel => exact ⟨m + 1, by omega, by go_num, below_drewN hB _⟩
      case measure => simp [intOf]; omega
    · obtain rfl : m = n := by omega
      go_wp2
      go_ret
      exact ⟨rfl, hB⟩
end Go.Proofs.Ytepbnfekicdlpaa
