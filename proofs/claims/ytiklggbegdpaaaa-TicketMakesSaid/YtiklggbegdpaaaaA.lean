/-
  The functions of the ticket and of its reference, each under its contract: what it gives back, and that nothing that was there has turned.
-/
import Derived.Test.YtiklggbegdpaaaaProg
import Derived.Test.YtiklggbegdpaaaaKit
namespace Go.Proofs.Ytiklggbegdpaaaa
open Go.RowKit
set_option linter.unusedVariables false
set_option linter.unusedSimpArgs false
attribute [local go_sem] max2_int min2_int max_two min_two
theorem pair_eq (a b a' b' : Int) (w : World) : (Op.equalIn 10000 34 (.agg #[.int .i64 a, .int .i64 b]) (.agg #[.int .i64 a', .int .i64 b'])).run Try.prog w = .ok (a == a' && b == b') w :=
  run_equalIn_pair 9998 34 3 .i64 .i64 a b a' b' (by kernel_rfl) (by kernel_rfl) (fun _ => by kernel_rfl) (fun _ => by kernel_rfl)
theorem and15 (x : Int) (h0 : 0 ≤ x) (h1 : x < 18446744073709551616) : bits .and .u64 x 15 = x % 16 := mask64 4 (by omega) x h0 h1
def genOf (h : Int) : Int := if 1073741824 < h / 16 then 1073741824 else h / 16
theorem f20 (x : Int) (w : World) (h0 : 0 ≤ x) (h1 : x < 18446744073709551616) : Calls Try.prog 20 #[.int .u64 x] w fun e w' => e = .returned (.int .i64 (x % 16 - 1)) ∧ w = w' := by
  have hb := and15 x h0 h1
  go_enter Try.func20, Try.ntmps20
  go_wp2
  go_ret
  exact ⟨rfl, rfl⟩
theorem f21 (x : Int) (w : World) (h0 : 0 ≤ x) (h1 : x ≤ 11) : Calls Try.prog 21 #[.int .i64 x] w fun e w' => e = .returned (.int .u64 (x + 1)) ∧ w = w' := by
  go_enter Try.func21, Try.ntmps21
  go_wp2
  go_ret
  exact ⟨rfl, rfl⟩
theorem f22 (x : Int) (w : World) (h0 : 0 ≤ x) (h1 : x < 18446744073709551616) : Calls Try.prog 22 #[.int .u64 x] w fun e w' => e = .returned (.int .i64 (genOf x)) ∧ w = w' := by
  by_cases c : 1073741824 < x / 16
  · rw [show genOf x = 1073741824 by unfold genOf; rw [if_pos c]]
    go_enter Try.func22, Try.ntmps22
    go_wp2
    go_ret
    exact ⟨rfl, rfl⟩
  · rw [show genOf x = x / 16 by unfold genOf; rw [if_neg c]]
    go_enter Try.func22, Try.ntmps22
    go_wp2
    go_ret
    exact ⟨rfl, rfl⟩
theorem f23 (x : Int) (w : World) (h0 : 0 ≤ x) (h1 : x ≤ 1073741823) : Calls Try.prog 23 #[.int .i64 x] w fun e w' => e = .returned (.int .u64 (x * 16)) ∧ w = w' := by
  go_enter Try.func23, Try.ntmps23
  go_wp2
  go_ret
  exact ⟨rfl, rfl⟩
theorem f21b (x : Int) (w : World) (h0 : 0 ≤ x) (h1 : x ≤ 11) : Calls Try.prog 21 #[.int .i64 x] w fun e w' => e = .returned (.int .u64 (x + 1)) ∧ Below w.heap.size w w' :=
  (f21 x w h0 h1).mono fun e w' ⟨a, b⟩ => ⟨a, b ▸ Below.refl _ _⟩
theorem f23b (x : Int) (w : World) (h0 : 0 ≤ x) (h1 : x ≤ 1073741823) : Calls Try.prog 23 #[.int .i64 x] w fun e w' => e = .returned (.int .u64 (x * 16)) ∧ Below w.heap.size w w' :=
  (f23 x w h0 h1).mono fun e w' ⟨a, b⟩ => ⟨a, b ▸ Below.refl _ _⟩
theorem fields_any (w : World) : Calls Try.prog 18 #[] w fun e w' => e = .returned (.agg #[.func (.func 20) #[] #[], .func (.func 21) #[] #[], .func (.func 22) #[] #[], .func (.func 23) #[] #[]]) ∧ Below w.heap.size w w' := by
  go_enter Try.func18, Try.ntmps18
  go_wp2
  refine bodyPost_ret (v := .agg #[.func (.func 20) #[] #[], .func (.func 21) #[] #[], .func (.func 22) #[] #[], .func (.func 23) #[] #[]]) (by simp [results, Try.results18, go_sem]) rfl ⟨rfl, below_alloc (Below.refl _ _) _⟩
theorem parts_any (x : Int) (w : World) (h0 : 0 ≤ x) (h1 : x < 18446744073709551616) : Calls Try.prog 19 #[.int .u64 x] w fun e w' => e = .returned (.agg #[.int .i64 (x % 16 - 1), .int .i64 (genOf x)]) ∧ Below w.heap.size w w' := by
  go_enter Try.func19, Try.ntmps19
  go_wp2_with (first | (go_at_call 18; refine (fields_any _).mono ?_; rintro e w1 ⟨rfl, hb1⟩; obtain ⟨hc1, hf1⟩ := bcell hb1; have hz1 : w.heap.size < w1.heap.size := by have := hb1.size; simp at this; omega))
  have hz2 : w.heap.size ≠ w1.heap.size := by omega
  refine region_tail 11 (by kernel_rfl) (by kernel_rfl) ?_
  simp only [List.take_succ_cons, List.take_zero, List.drop_succ_cons, List.drop_zero]
  repeat (first | still_step | still_call ((f20 _ _ h0 h1).mono fun e w' ⟨a, b⟩ => ⟨a, b.symm⟩) | still_call ((f22 _ _ h0 h1).mono fun e w' ⟨a, b⟩ => ⟨a, b.symm⟩))
  refine wpStill_nil ?_
  go_wp2
  refine bodyPost_ret (results_cell_row rfl _ _ w.heap.size 34 #[.int .i64 (x % 16 - 1), .int .i64 (genOf x)] (0, 0) _ rfl ?_ Try.underlying34 rfl (by kernel_rfl)) rfl ⟨rfl, ?_⟩
  · exact blk_drew (blk_alloc (blk_put (blk_put (blk_below (blk_new _ _) hb1) 0 _ rfl) 1 _ rfl) _)
  · exact below_drew (below_alloc (below_set (below_set (below_then (below_alloc (Below.refl _ _) _) hb1) (Nat.le_refl _) _) (Nat.le_refl _) _) _)
def slotB (h : Int) : Bool := decide (1 ≤ h % 16 ∧ h % 16 ≤ 12)
def slotN (h : Int) : Int := if slotB h then h % 16 - 1 else 0
theorem slot_yes {h : Int} (c : 1 ≤ h % 16 ∧ h % 16 ≤ 12) : slotB h = true ∧ slotN h = h % 16 - 1 := by
  have e : slotB h = true := by unfold slotB; exact decide_eq_true c
  exact ⟨e, by unfold slotN; rw [if_pos e]⟩
theorem slot_no {h : Int} (c : ¬ (1 ≤ h % 16 ∧ h % 16 ≤ 12)) : slotB h = false ∧ slotN h = 0 := by
  have e : slotB h = false := by unfold slotB; exact decide_eq_false c
  exact ⟨e, by unfold slotN; rw [if_neg (by simp [e])]⟩
theorem Slot_any (x : Int) (w : World) (h0 : 0 ≤ x) (h1 : x < 18446744073709551616) : Calls Try.prog 11 #[.int .u64 x] w fun e w' => e = .returned (.tuple #[.int .i64 (slotN x), .bool (slotB x)]) ∧ Below w.heap.size w w' := by
  have hi : ∀ (a b : Int) (w : World), (Instr.index 34 (.agg #[.int .i64 a, .int .i64 b]) (.int .i64 0)).run Try.prog w = .ok (.int .i64 a) w := fun _ _ _ => by kernel_rfl
  by_cases c1 : x % 16 - 1 < 0
  · obtain ⟨e1, e2⟩ := slot_no (h := x) (by omega)
    rw [e1, e2]
    clear e1 e2
    go_enter Try.func11, Try.ntmps11
    go_wp2_with (first | (go_at_call 19; refine (parts_any _ _ h0 h1).mono ?_; rintro e w1 ⟨rfl, hb1⟩))
    go_ret2
    exact ⟨rfl, by repeat (first | exact Below.refl _ _ | refine below_alloc ?_ _ | refine below_then ?_ (by assumption))⟩
  · by_cases c2 : 12 ≤ x % 16 - 1
    · obtain ⟨e1, e2⟩ := slot_no (h := x) (by omega)
      rw [e1, e2]
      clear e1 e2
      go_enter Try.func11, Try.ntmps11
      go_wp2_with (first | (go_at_call 19; refine (parts_any _ _ h0 h1).mono ?_; rintro e w1 ⟨rfl, hb1⟩))
      go_ret2
      exact ⟨rfl, by repeat (first | exact Below.refl _ _ | refine below_alloc ?_ _ | refine below_then ?_ (by assumption))⟩
    · obtain ⟨e1, e2⟩ := slot_yes (h := x) (by omega)
      rw [e1, e2]
      clear e1 e2
      go_enter Try.func11, Try.ntmps11
      go_wp2_with (first | (go_at_call 19; refine (parts_any _ _ h0 h1).mono ?_; rintro e w1 ⟨rfl, hb1⟩))
      go_ret2
      exact ⟨rfl, by repeat (first | exact Below.refl _ _ | refine below_alloc ?_ _ | refine below_then ?_ (by assumption))⟩
theorem Gen_any (x : Int) (w : World) (h0 : 0 ≤ x) (h1 : x < 18446744073709551616) : Calls Try.prog 13 #[.int .u64 x] w fun e w' => e = .returned (.int .i64 (genOf x)) ∧ Below w.heap.size w w' := by
  have hi : ∀ (a b : Int) (w : World), (Instr.index 34 (.agg #[.int .i64 a, .int .i64 b]) (.int .i64 1)).run Try.prog w = .ok (.int .i64 b) w := fun _ _ _ => by kernel_rfl
  go_enter Try.func13, Try.ntmps13
  go_wp2_with (first | (go_at_call 19; refine (parts_any _ _ h0 h1).mono ?_; rintro e w1 ⟨rfl, hb1⟩))
  go_ret
  exact ⟨rfl, by repeat (first | exact Below.refl _ _ | refine below_alloc ?_ _ | refine below_then ?_ (by assumption))⟩
theorem RSlot_any (x : Int) (w : World) (h0 : 0 ≤ x) (h1 : x < 18446744073709551616) : Calls Try.prog 14 #[.int .u64 x] w fun e w' => e = .returned (.tuple #[.int .i64 (slotN x), .bool (slotB x)]) ∧ Below w.heap.size w w' := by
  by_cases c1 : x % 16 < 1
  · obtain ⟨e1, e2⟩ := slot_no (h := x) (by omega)
    rw [e1, e2]
    clear e1 e2
    go_enter Try.func14, Try.ntmps14
    go_wp2
    go_ret2
    exact ⟨rfl, Below.refl _ _⟩
  · by_cases c2 : 12 < x % 16
    · obtain ⟨e1, e2⟩ := slot_no (h := x) (by omega)
      rw [e1, e2]
      clear e1 e2
      go_enter Try.func14, Try.ntmps14
      go_wp2
      go_ret2
      exact ⟨rfl, Below.refl _ _⟩
    · obtain ⟨e1, e2⟩ := slot_yes (h := x) (by omega)
      rw [e1, e2]
      clear e1 e2
      go_enter Try.func14, Try.ntmps14
      go_wp2
      go_ret2
      exact ⟨rfl, Below.refl _ _⟩
theorem RGen_any (x : Int) (w : World) (h0 : 0 ≤ x) (h1 : x < 18446744073709551616) : Calls Try.prog 15 #[.int .u64 x] w fun e w' => e = .returned (.int .i64 (genOf x)) ∧ Below w.heap.size w w' := by
  by_cases c : 1073741823 < x / 16
  · rw [show genOf x = 1073741824 by unfold genOf; split <;> omega]
    go_enter Try.func15, Try.ntmps15
    go_wp2
    go_ret
    exact ⟨rfl, Below.refl _ _⟩
  · rw [show genOf x = x / 16 by unfold genOf; split <;> omega]
    go_enter Try.func15, Try.ntmps15
    go_wp2
    go_ret
    exact ⟨rfl, Below.refl _ _⟩
end Go.Proofs.Ytiklggbegdpaaaa
