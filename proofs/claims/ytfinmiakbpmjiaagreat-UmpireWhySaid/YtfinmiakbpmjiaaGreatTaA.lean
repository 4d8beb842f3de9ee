/-
  The words of tallies, tickets and marks.
-/
import Derived.Test.YtfinmiakbpmjiaaGreatProg
import Derived.Test.YtfinmiakbpmjiaaGreatKit
import Derived.RangeFuncBox
import Derived.RangeFuncLeaves
import Derived.RangeFuncNested
import Derived.RangeFuncBound
import Derived.RangeFuncCalls
import Derived.Shelf.Abstract
import Derived.OwnWalkIn
import Derived.TacticsInMore
import Derived.LoopNIn
import Derived.LoopIn
import Derived.Maps.AppendAt
set_option linter.unusedSimpArgs false
set_option linter.unusedVariables false
set_option maxRecDepth 100000
namespace Go.Proofs.YtfinmiakbpmjiaaGreat.Ta
open Go.Proofs.YtfinmiakbpmjiaaGreat
open Go.RowKit
attribute [local go_sem] max2_int min2_int max_two min_two
theorem pair_eq (a b a' b' : Int) (w : World) : (Op.equalIn 10000 135 (.agg #[.int .i64 a, .int .i64 b]) (.agg #[.int .i64 a', .int .i64 b'])).run Tryz.prog w = .ok (a == a' && b == b') w :=
 run_equalIn_pair 9998 135 3 .i64 .i64 a b a' b' (by kernel_rfl) (by kernel_rfl) (fun _ => by kernel_rfl) (fun _ => by kernel_rfl)
theorem bits_pack (s p : Int) (h0 : 0 ≤ s) (h1 : s ≤ 1099511627775) (h2 : -1 ≤ p) (h3 : p ≤ 11) : bits .or .u64 (s * 16) (p + 1) = 16 * s + (p + 1) := by
 rw [bits_join .u64 64 (by decide) (fun n h h' => IntWalk.u64_in n (by omega)) 4 _ _ (by omega) (by omega) (by omega) (by omega) (by omega) (by omega)]
 omega
theorem Pack_yes (s p : Int) (w : World) (h0 : 0 ≤ s) (h1 : s ≤ 1099511627775) (h2 : -1 ≤ p) (h3 : p ≤ 11) :
  Calls Tryz.prog 241 #[.agg #[.int .u64 s, .int .i64 p]] w fun e w' => e = .returned (.tuple #[.int .u64 (16 * s + (p + 1)), .bool true]) ∧ Below w.heap.size w w' := by
 have hb := bits_pack s p h0 h1 h2 h3
 have hq := pair_eq
 by_cases hp : p = -1
 ·subst hp
  go_enter Tryz.func241, Tryz.ntmps241
  go_wp2
  go_ret2
  exact ⟨by simp at hb; simp [hb], ((Below.refl _ _).alloc (Nat.le_refl _) _).alloc (by simp) _⟩
 ·have hp' : -1 < p := by omega
  go_enter Tryz.func241, Tryz.ntmps241
  go_wp2
  go_ret2
  exact ⟨by simp [hb], ((Below.refl _ _).alloc (Nat.le_refl _) _).alloc (by simp) _⟩
theorem Pack_no (s p : Int) (w : World) (h0 : 0 ≤ s) (h : ¬ (s ≤ 1099511627775 ∧ -1 ≤ p ∧ p ≤ 11)) :
  Calls Tryz.prog 241 #[.agg #[.int .u64 s, .int .i64 p]] w fun e w' => e = .returned (.tuple #[.int .u64 0, .bool false]) ∧ Below w.heap.size w w' := by
 have hq := pair_eq
 have hc : p < -1 ∨ 11 < p ∨ (-1 = p ∧ 1099511627775 < s) ∨ (-1 < p ∧ p ≤ 11 ∧ 1099511627775 < s) := by omega
 rcases hc with hc | hc | ⟨rfl, hc⟩ | ⟨hc1, hc2, hc⟩
 ·have hc' : ¬ (11 < p) := by omega
  have hc2 : ¬ (-1 < p) := by omega
  have hc3 : ((-1 : Int) == p) = false := by simp; omega
  clear h hc
  go_enter Tryz.func241, Tryz.ntmps241
  go_wp2
  all_goals (go_ret2; exact ⟨rfl, ((Below.refl _ _).alloc (Nat.le_refl _) _).alloc (by simp) _⟩)
 ·have hc3 : ((11 : Int) == p) = false := by simp; omega
  clear h
  go_enter Tryz.func241, Tryz.ntmps241
  go_wp2
  all_goals (go_ret2; exact ⟨rfl, ((Below.refl _ _).alloc (Nat.le_refl _) _).alloc (by simp) _⟩)
 ·clear h
  by_cases hd : s ≤ 1099511627776
  ·obtain rfl : s = 1099511627776 := by omega
   go_enter Tryz.func241, Tryz.ntmps241
   go_wp2
   all_goals (go_ret2; exact ⟨rfl, ((Below.refl _ _).alloc (Nat.le_refl _) _).alloc (by simp) _⟩)
  ·have hd' : 1099511627776 < s := by omega
   go_enter Tryz.func241, Tryz.ntmps241
   go_wp2
   all_goals (go_ret2; exact ⟨rfl, ((Below.refl _ _).alloc (Nat.le_refl _) _).alloc (by simp) _⟩)
 ·clear h
  by_cases hd : s ≤ 1099511627776
  ·obtain rfl : s = 1099511627776 := by omega
   go_enter Tryz.func241, Tryz.ntmps241
   go_wp2
   all_goals (go_ret2; exact ⟨rfl, ((Below.refl _ _).alloc (Nat.le_refl _) _).alloc (by simp) _⟩)
  ·have hd' : 1099511627776 < s := by omega
   go_enter Tryz.func241, Tryz.ntmps241
   go_wp2
   all_goals (go_ret2; exact ⟨rfl, ((Below.refl _ _).alloc (Nat.le_refl _) _).alloc (by simp) _⟩)
theorem and15 (x : Int) (h0 : 0 ≤ x) (h1 : x < 18446744073709551616) : bits .and .u64 x 15 = x % 16 :=
 bits_mask .u64 64 (by decide) (fun n h h' => IntWalk.u64_in n (by omega)) 4 (by decide) x h0 (by omega)
theorem Unpack_any (x : Int) (w : World) (h0 : 0 ≤ x) (h1 : x < 18446744073709551616) :
  Calls Tryz.prog 200 #[.int .u64 x] w fun e w' => e = .returned (.agg #[.int .u64 (x / 16), .int .i64 (x % 16 - 1)]) ∧ Below w.heap.size w w' := by
 have hb := and15 x h0 h1
 go_enter Tryz.func200, Tryz.ntmps200
 go_wp2
 refine bodyPost_ret (v := .agg #[.int .u64 (x / 16), .int .i64 (x % 16 - 1)]) (by simp [results, Tryz.results12, go_sem]) rfl ⟨rfl, below_alloc (Below.refl _ _) _⟩
theorem Settled_any (x : Int) (w : World) (h0 : 0 ≤ x) (h1 : x < 18446744073709551616) :
  Calls Tryz.prog 287 #[.int .u64 x] w fun e w' => e = .returned (.int .u64 (x / 16 * 16)) ∧ Below w.heap.size w w' := by
 go_enter Tryz.func287, Tryz.ntmps287
 go_wp2
 go_ret
 exact ⟨rfl, Below.refl _ _⟩
def pastB (n s : Int) : Bool := decide (0 < n ∧ n ≤ s)
theorem Past_any (n s : Int) (w : World) (h0 : 0 ≤ n) :
  Calls Tryz.prog 281 #[.int .u64 n, .int .u64 s] w fun e w' => e = .returned (.bool (pastB n s)) ∧ Below w.heap.size w w' := by
 by_cases hn : n = 0
 ·subst hn
  go_enter Tryz.func281, Tryz.ntmps281
  go_wp2
  go_ret
  exact ⟨by simp [pastB], Below.refl _ _⟩
 ·have hb : (n != 0) = true := by simpa using hn
  have e : pastB n s = decide (n ≤ s) := by unfold pastB; simp; omega
  rw [e]
  clear e
  go_enter Tryz.func281, Tryz.ntmps281
  go_wp2
  go_ret
  exact ⟨rfl, Below.refl _ _⟩
end Go.Proofs.YtfinmiakbpmjiaaGreat.Ta
namespace Go.Proofs.YtfinmiakbpmjiaaGreat.Ta
open Go.Proofs.YtfinmiakbpmjiaaGreat
open Go.RowKit
def nextB (x p : Int) : Bool := decide (x % 16 = 0 ∧ 0 ≤ p ∧ p ≤ 11 ∧ x / 16 < 1099511627775)
def nextW (x p : Int) : Int := if nextB x p then 16 * (x / 16 + 1) + (p + 1) else 0
theorem next_yes {x p : Int} (h : x % 16 = 0 ∧ 0 ≤ p ∧ p ≤ 11 ∧ x / 16 < 1099511627775) : nextB x p = true ∧ nextW x p = 16 * (x / 16 + 1) + (p + 1) := by
 have : nextB x p = true := by unfold nextB; exact decide_eq_true h
 exact ⟨this, by unfold nextW; rw [if_pos this]⟩
theorem next_no {x p : Int} (h : ¬ (x % 16 = 0 ∧ 0 ≤ p ∧ p ≤ 11 ∧ x / 16 < 1099511627775)) : nextB x p = false ∧ nextW x p = 0 := by
 have : nextB x p = false := by unfold nextB; exact decide_eq_false h
 exact ⟨this, by unfold nextW; rw [if_neg (by simp [this])]⟩
theorem Next_any (x p : Int) (w : World) (h0 : 0 ≤ x) (h1 : x < 18446744073709551616) :
  Calls Tryz.prog 211 #[.int .u64 x, .int .i64 p] w fun e w' => e = .returned (.tuple #[.int .u64 (nextW x p), .bool (nextB x p)]) ∧ Below w.heap.size w w' := by
 by_cases c1 : x % 16 = 0
 ·by_cases c2 : p < 0
  ·obtain ⟨e1, e2⟩ := next_no (x := x) (p := p) (by omega)
   rw [e1, e2]
   clear e1 e2
   go_enter Tryz.func211, Tryz.ntmps211
   go_wp2_with (go_at_call 200; refine (Unpack_any _ _ h0 h1).mono ?_; rintro e w1 ⟨rfl, hb1⟩)
   go_ret2
   exact ⟨rfl, below_alloc (below_then (Below.refl _ _) hb1) _⟩
  ·by_cases c3 : x / 16 < 1099511627775 ∧ p ≤ 11
   ·obtain ⟨e1, e2⟩ := next_yes (x := x) (p := p) (by omega)
    rw [e1, e2]
    clear e1 e2
    go_enter Tryz.func211, Tryz.ntmps211
    go_wp2_with (first | (go_at_call 200; refine (Unpack_any _ _ h0 h1).mono ?_; rintro e w1 ⟨rfl, hb1⟩) | (go_at_call 241; refine (Pack_yes _ _ _ (by omega) (by omega) (by omega) (by omega)).mono ?_; rintro e w2 ⟨rfl, hb2⟩))
    go_ret2
    exact ⟨rfl, below_then (below_alloc (below_then (Below.refl _ _) hb1) _) hb2⟩
   ·obtain ⟨e1, e2⟩ := next_no (x := x) (p := p) (by omega)
    rw [e1, e2]
    clear e1 e2
    go_enter Tryz.func211, Tryz.ntmps211
    go_wp2_with (first | (go_at_call 200; refine (Unpack_any _ _ h0 h1).mono ?_; rintro e w1 ⟨rfl, hb1⟩) | (go_at_call 241; refine (Pack_no _ _ _ (by omega) (by omega)).mono ?_; rintro e w2 ⟨rfl, hb2⟩))
    go_ret2
    exact ⟨rfl, below_then (below_alloc (below_then (Below.refl _ _) hb1) _) hb2⟩
 ·obtain ⟨e1, e2⟩ := next_no (x := x) (p := p) (by omega)
  rw [e1, e2]
  clear e1 e2
  have hz : (x % 16 - 1 == -1) = false := by simp; omega
  go_enter Tryz.func211, Tryz.ntmps211
  go_wp2_with (go_at_call 200; refine (Unpack_any _ _ h0 h1).mono ?_; rintro e w1 ⟨rfl, hb1⟩)
  go_ret2
  exact ⟨rfl, below_alloc (below_then (Below.refl _ _) hb1) _⟩
end Go.Proofs.YtfinmiakbpmjiaaGreat.Ta
namespace Go.Proofs.YtfinmiakbpmjiaaGreat.Ti
open Go.Proofs.YtfinmiakbpmjiaaGreat
open Go.RowKit
attribute [local go_sem] max2_int min2_int max_two min_two
theorem pair_eq (a b a' b' : Int) (w : World) : (Op.equalIn 10000 135 (.agg #[.int .i64 a, .int .i64 b]) (.agg #[.int .i64 a', .int .i64 b'])).run Tryz.prog w = .ok (a == a' && b == b') w :=
 run_equalIn_pair 9998 135 3 .i64 .i64 a b a' b' (by kernel_rfl) (by kernel_rfl) (fun _ => by kernel_rfl) (fun _ => by kernel_rfl)
theorem and15 (x : Int) (h0 : 0 ≤ x) (h1 : x < 18446744073709551616) : bits .and .u64 x 15 = x % 16 := mask64 4 (by omega) x h0 h1
def genOf (h : Int) : Int := if 1073741824 < h / 16 then 1073741824 else h / 16
theorem f20 (x : Int) (w : World) (h0 : 0 ≤ x) (h1 : x < 18446744073709551616) : Calls Tryz.prog 228 #[.int .u64 x] w fun e w' => e = .returned (.int .i64 (x % 16 - 1)) ∧ w = w' := by
 have hb := and15 x h0 h1
 go_enter Tryz.func228, Tryz.ntmps228
 go_wp2
 go_ret
 exact ⟨rfl, rfl⟩
theorem f21 (x : Int) (w : World) (h0 : 0 ≤ x) (h1 : x ≤ 11) : Calls Tryz.prog 229 #[.int .i64 x] w fun e w' => e = .returned (.int .u64 (x + 1)) ∧ w = w' := by
 go_enter Tryz.func229, Tryz.ntmps229
 go_wp2
 go_ret
 exact ⟨rfl, rfl⟩
theorem f22 (x : Int) (w : World) (h0 : 0 ≤ x) (h1 : x < 18446744073709551616) : Calls Tryz.prog 230 #[.int .u64 x] w fun e w' => e = .returned (.int .i64 (genOf x)) ∧ w = w' := by
 by_cases c : 1073741824 < x / 16
 ·rw [show genOf x = 1073741824 by unfold genOf; rw [if_pos c]]
  go_enter Tryz.func230, Tryz.ntmps230
  go_wp2
  go_ret
  exact ⟨rfl, rfl⟩
 ·rw [show genOf x = x / 16 by unfold genOf; rw [if_neg c]]
  go_enter Tryz.func230, Tryz.ntmps230
  go_wp2
  go_ret
  exact ⟨rfl, rfl⟩
theorem f23 (x : Int) (w : World) (h0 : 0 ≤ x) (h1 : x ≤ 1073741823) : Calls Tryz.prog 231 #[.int .i64 x] w fun e w' => e = .returned (.int .u64 (x * 16)) ∧ w = w' := by
 go_enter Tryz.func231, Tryz.ntmps231
 go_wp2
 go_ret
 exact ⟨rfl, rfl⟩
theorem f21b (x : Int) (w : World) (h0 : 0 ≤ x) (h1 : x ≤ 11) : Calls Tryz.prog 229 #[.int .i64 x] w fun e w' => e = .returned (.int .u64 (x + 1)) ∧ Below w.heap.size w w' :=
 (f21 x w h0 h1).mono fun e w' ⟨a, b⟩ => ⟨a, b ▸ Below.refl _ _⟩
theorem f23b (x : Int) (w : World) (h0 : 0 ≤ x) (h1 : x ≤ 1073741823) : Calls Tryz.prog 231 #[.int .i64 x] w fun e w' => e = .returned (.int .u64 (x * 16)) ∧ Below w.heap.size w w' :=
 (f23 x w h0 h1).mono fun e w' ⟨a, b⟩ => ⟨a, b ▸ Below.refl _ _⟩
theorem fields_any (w : World) : Calls Tryz.prog 204 #[] w fun e w' => e = .returned (.agg #[.func (.func 228) #[] #[], .func (.func 229) #[] #[], .func (.func 230) #[] #[], .func (.func 231) #[] #[]]) ∧ Below w.heap.size w w' := by
 go_enter Tryz.func204, Tryz.ntmps204
 go_wp2
 refine bodyPost_ret (v := .agg #[.func (.func 228) #[] #[], .func (.func 229) #[] #[], .func (.func 230) #[] #[], .func (.func 231) #[] #[]]) (by simp [results, Tryz.results18, go_sem]) rfl ⟨rfl, below_alloc (Below.refl _ _) _⟩
theorem parts_any (x : Int) (w : World) (h0 : 0 ≤ x) (h1 : x < 18446744073709551616) : Calls Tryz.prog 181 #[.int .u64 x] w fun e w' => e = .returned (.agg #[.int .i64 (x % 16 - 1), .int .i64 (genOf x)]) ∧ Below w.heap.size w w' := by
 go_enter Tryz.func181, Tryz.ntmps181
 go_wp2_with (first | (go_at_call 204; refine (fields_any _).mono ?_; rintro e w1 ⟨rfl, hb1⟩; obtain ⟨hc1, hf1⟩ := bcell hb1; have hz1 : w.heap.size < w1.heap.size := by have := hb1.size; simp at this; omega))
 have hz2 : w.heap.size ≠ w1.heap.size := by omega
 refine region_tail 11 (by kernel_rfl) (by kernel_rfl) ?_
 simp only [List.take_succ_cons, List.take_zero, List.drop_succ_cons, List.drop_zero]
 repeat (first | still_step | still_call ((f20 _ _ h0 h1).mono fun e w' ⟨a, b⟩ => ⟨a, b.symm⟩) | still_call ((f22 _ _ h0 h1).mono fun e w' ⟨a, b⟩ => ⟨a, b.symm⟩))
 refine wpStill_nil ?_
 go_wp2
 refine bodyPost_ret (results_cell_row rfl _ _ w.heap.size 135 #[.int .i64 (x % 16 - 1), .int .i64 (genOf x)] (0, 0) _ rfl ?_ Tryz.underlying135 rfl (by kernel_rfl)) rfl ⟨rfl, ?_⟩
 ·exact blk_drew (blk_alloc (blk_put (blk_put (blk_below (blk_new _ _) hb1) 0 _ rfl) 1 _ rfl) _)
 ·exact below_drew (below_alloc (below_set (below_set (below_then (below_alloc (Below.refl _ _) _) hb1) (Nat.le_refl _) _) (Nat.le_refl _) _) _)
def slotB (h : Int) : Bool := decide (1 ≤ h % 16 ∧ h % 16 ≤ 12)
def slotN (h : Int) : Int := if slotB h then h % 16 - 1 else 0
theorem slot_yes {h : Int} (c : 1 ≤ h % 16 ∧ h % 16 ≤ 12) : slotB h = true ∧ slotN h = h % 16 - 1 := by
 have e : slotB h = true := by unfold slotB; exact decide_eq_true c
 exact ⟨e, by unfold slotN; rw [if_pos e]⟩
theorem slot_no {h : Int} (c : ¬ (1 ≤ h % 16 ∧ h % 16 ≤ 12)) : slotB h = false ∧ slotN h = 0 := by
 have e : slotB h = false := by unfold slotB; exact decide_eq_false c
 exact ⟨e, by unfold slotN; rw [if_neg (by simp [e])]⟩
theorem Slot_any (x : Int) (w : World) (h0 : 0 ≤ x) (h1 : x < 18446744073709551616) : Calls Tryz.prog 144 #[.int .u64 x] w fun e w' => e = .returned (.tuple #[.int .i64 (slotN x), .bool (slotB x)]) ∧ Below w.heap.size w w' := by
 have hi : ∀ (a b : Int) (w : World), (Instr.index 135 (.agg #[.int .i64 a, .int .i64 b]) (.int .i64 0)).run Tryz.prog w = .ok (.int .i64 a) w := fun _ _ _ => by kernel_rfl
 by_cases c1 : x % 16 - 1 < 0
 ·obtain ⟨e1, e2⟩ := slot_no (h := x) (by omega)
  rw [e1, e2]
  clear e1 e2
  go_enter Tryz.func144, Tryz.ntmps144
  go_wp2_with (first | (go_at_call 181; refine (parts_any _ _ h0 h1).mono ?_; rintro e w1 ⟨rfl, hb1⟩))
  go_ret2
  exact ⟨rfl, by repeat (first | exact Below.refl _ _ | refine below_alloc ?_ _ | refine below_then ?_ (by assumption))⟩
 ·by_cases c2 : 12 ≤ x % 16 - 1
  ·obtain ⟨e1, e2⟩ := slot_no (h := x) (by omega)
   rw [e1, e2]
   clear e1 e2
   go_enter Tryz.func144, Tryz.ntmps144
   go_wp2_with (first | (go_at_call 181; refine (parts_any _ _ h0 h1).mono ?_; rintro e w1 ⟨rfl, hb1⟩))
   go_ret2
   exact ⟨rfl, by repeat (first | exact Below.refl _ _ | refine below_alloc ?_ _ | refine below_then ?_ (by assumption))⟩
  ·obtain ⟨e1, e2⟩ := slot_yes (h := x) (by omega)
   rw [e1, e2]
   clear e1 e2
   go_enter Tryz.func144, Tryz.ntmps144
   go_wp2_with (first | (go_at_call 181; refine (parts_any _ _ h0 h1).mono ?_; rintro e w1 ⟨rfl, hb1⟩))
   go_ret2
   exact ⟨rfl, by repeat (first | exact Below.refl _ _ | refine below_alloc ?_ _ | refine below_then ?_ (by assumption))⟩
theorem Gen_any (x : Int) (w : World) (h0 : 0 ≤ x) (h1 : x < 18446744073709551616) : Calls Tryz.prog 145 #[.int .u64 x] w fun e w' => e = .returned (.int .i64 (genOf x)) ∧ Below w.heap.size w w' := by
 have hi : ∀ (a b : Int) (w : World), (Instr.index 135 (.agg #[.int .i64 a, .int .i64 b]) (.int .i64 1)).run Tryz.prog w = .ok (.int .i64 b) w := fun _ _ _ => by kernel_rfl
 go_enter Tryz.func145, Tryz.ntmps145
 go_wp2_with (first | (go_at_call 181; refine (parts_any _ _ h0 h1).mono ?_; rintro e w1 ⟨rfl, hb1⟩))
 go_ret
 exact ⟨rfl, by repeat (first | exact Below.refl _ _ | refine below_alloc ?_ _ | refine below_then ?_ (by assumption))⟩
end Go.Proofs.YtfinmiakbpmjiaaGreat.Ti
namespace Go.Proofs.YtfinmiakbpmjiaaGreat.Ti
open Go.Proofs.YtfinmiakbpmjiaaGreat
open Go.RowKit
attribute [local go_sem] max2_int min2_int max_two min_two
def makeB (s g : Int) : Bool := decide (0 ≤ s ∧ s ≤ 11 ∧ 0 ≤ g ∧ g ≤ 1073741823)
def makeW (s g : Int) : Int := if makeB s g then 16 * g + (s + 1) else 0
theorem make_yes {s g : Int} (c : 0 ≤ s ∧ s ≤ 11 ∧ 0 ≤ g ∧ g ≤ 1073741823) : makeB s g = true ∧ makeW s g = 16 * g + (s + 1) := by
 have e : makeB s g = true := by unfold makeB; exact decide_eq_true c
 exact ⟨e, by unfold makeW; rw [if_pos e]⟩
theorem make_no {s g : Int} (c : ¬ (0 ≤ s ∧ s ≤ 11 ∧ 0 ≤ g ∧ g ≤ 1073741823)) : makeB s g = false ∧ makeW s g = 0 := by
 have e : makeB s g = false := by unfold makeB; exact decide_eq_false c
 exact ⟨e, by unfold makeW; rw [if_neg (by simp [e])]⟩
set_option maxHeartbeats 1000000 in
theorem Make_yes (s g : Int) (w : World) (h0 : 0 ≤ s) (h1 : s ≤ 11) (h2 : 0 ≤ g) (h3 : g ≤ 1073741823) :
  Calls Tryz.prog 254 #[.int .i64 s, .int .i64 g] w fun e w' => e = .returned (.tuple #[.int .u64 (16 * g + (s + 1)), .bool true]) ∧ Below w.heap.size w w' := by
 have hb : Hid (bits .or .u64 (s + 1) (g * 16) = 16 * g + (s + 1)) := by
  show _ = _
  rw [or_comm64, join64 4 _ _ (by omega) (by omega) (by omega) (by omega) (by omega) (by omega)]
  omega
 have hq := pair_eq
 by_cases z1 : s = 0
 ·by_cases z2 : g = 0
  ·subst z1 z2
   go_enter Tryz.func254, Tryz.ntmps254
   go_wp2_with (first | (go_at_call 204; refine (fields_any _).mono ?_; rintro e w1 ⟨rfl, hb1⟩))
   have g1 := fun d os => cell_regrown (w := w1.alloc (.cells #[.func (.func 228) #[] #[], .func (.func 229) #[] #[], .func (.func 230) #[] #[], .func (.func 231) #[] #[]] 287)) (a := ⟨w1.heap.size, 1, none⟩) (v := .func (.func 229) #[] #[]) (by simp) d os
   have g3 := fun d os => cell_regrown (w := w1.alloc (.cells #[.func (.func 228) #[] #[], .func (.func 229) #[] #[], .func (.func 230) #[] #[], .func (.func 231) #[] #[]] 287)) (a := ⟨w1.heap.size, 3, none⟩) (v := .func (.func 231) #[] #[]) (by simp) d os
   refine wp_region_quiet_below (by kernel_rfl) (by kernel_rfl) ?_
   repeat (go_big_quiet_step (first | (go_at_call 229; exact quiet_call (f21b _ _ (by omega) (by omega))) | (go_at_call 231; exact quiet_call (f23b _ _ (by omega) (by omega)))))
   refine wpQuiet_nil ?_
   rintro w3 ⟨r3, rfl⟩
   go_wp2
   go_ret2
   exact ⟨by rw [← hb.out]; simp, below_regrow (below_alloc (below_then (below_alloc (Below.refl _ _) _) hb1) _) _ _⟩
  ·have z3 : 0 < g := by omega
   subst z1
   go_enter Tryz.func254, Tryz.ntmps254
   go_wp2_with (first | (go_at_call 204; refine (fields_any _).mono ?_; rintro e w1 ⟨rfl, hb1⟩))
   have g1 := fun d os => cell_regrown (w := w1.alloc (.cells #[.func (.func 228) #[] #[], .func (.func 229) #[] #[], .func (.func 230) #[] #[], .func (.func 231) #[] #[]] 287)) (a := ⟨w1.heap.size, 1, none⟩) (v := .func (.func 229) #[] #[]) (by simp) d os
   have g3 := fun d os => cell_regrown (w := w1.alloc (.cells #[.func (.func 228) #[] #[], .func (.func 229) #[] #[], .func (.func 230) #[] #[], .func (.func 231) #[] #[]] 287)) (a := ⟨w1.heap.size, 3, none⟩) (v := .func (.func 231) #[] #[]) (by simp) d os
   refine wp_region_quiet_below (by kernel_rfl) (by kernel_rfl) ?_
   repeat (go_big_quiet_step (first | (go_at_call 229; exact quiet_call (f21b _ _ (by omega) (by omega))) | (go_at_call 231; exact quiet_call (f23b _ _ (by omega) (by omega)))))
   refine wpQuiet_nil ?_
   rintro w3 ⟨r3, rfl⟩
   go_wp2
   go_ret2
   exact ⟨by rw [← hb.out]; simp, below_regrow (below_alloc (below_then (below_alloc (Below.refl _ _) _) hb1) _) _ _⟩
 ·have z4 : 0 < s := by omega
  by_cases z2 : g = 0
  ·subst z2
   go_enter Tryz.func254, Tryz.ntmps254
   go_wp2_with (first | (go_at_call 204; refine (fields_any _).mono ?_; rintro e w1 ⟨rfl, hb1⟩))
   have g1 := fun d os => cell_regrown (w := w1.alloc (.cells #[.func (.func 228) #[] #[], .func (.func 229) #[] #[], .func (.func 230) #[] #[], .func (.func 231) #[] #[]] 287)) (a := ⟨w1.heap.size, 1, none⟩) (v := .func (.func 229) #[] #[]) (by simp) d os
   have g3 := fun d os => cell_regrown (w := w1.alloc (.cells #[.func (.func 228) #[] #[], .func (.func 229) #[] #[], .func (.func 230) #[] #[], .func (.func 231) #[] #[]] 287)) (a := ⟨w1.heap.size, 3, none⟩) (v := .func (.func 231) #[] #[]) (by simp) d os
   refine wp_region_quiet_below (by kernel_rfl) (by kernel_rfl) ?_
   repeat (go_big_quiet_step (first | (go_at_call 229; exact quiet_call (f21b _ _ (by omega) (by omega))) | (go_at_call 231; exact quiet_call (f23b _ _ (by omega) (by omega)))))
   refine wpQuiet_nil ?_
   rintro w3 ⟨r3, rfl⟩
   go_wp2
   go_ret2
   exact ⟨by rw [← hb.out]; simp, below_regrow (below_alloc (below_then (below_alloc (Below.refl _ _) _) hb1) _) _ _⟩
  ·have z3 : 0 < g := by omega
   go_enter Tryz.func254, Tryz.ntmps254
   go_wp2_with (first | (go_at_call 204; refine (fields_any _).mono ?_; rintro e w1 ⟨rfl, hb1⟩))
   have g1 := fun d os => cell_regrown (w := w1.alloc (.cells #[.func (.func 228) #[] #[], .func (.func 229) #[] #[], .func (.func 230) #[] #[], .func (.func 231) #[] #[]] 287)) (a := ⟨w1.heap.size, 1, none⟩) (v := .func (.func 229) #[] #[]) (by simp) d os
   have g3 := fun d os => cell_regrown (w := w1.alloc (.cells #[.func (.func 228) #[] #[], .func (.func 229) #[] #[], .func (.func 230) #[] #[], .func (.func 231) #[] #[]] 287)) (a := ⟨w1.heap.size, 3, none⟩) (v := .func (.func 231) #[] #[]) (by simp) d os
   refine wp_region_quiet_below (by kernel_rfl) (by kernel_rfl) ?_
   repeat (go_big_quiet_step (first | (go_at_call 229; exact quiet_call (f21b _ _ (by omega) (by omega))) | (go_at_call 231; exact quiet_call (f23b _ _ (by omega) (by omega)))))
   refine wpQuiet_nil ?_
   rintro w3 ⟨r3, rfl⟩
   go_wp2
   go_ret2
   exact ⟨by rw [← hb.out]; simp, below_regrow (below_alloc (below_then (below_alloc (Below.refl _ _) _) hb1) _) _ _⟩
set_option maxHeartbeats 1000000 in
theorem Make_no (s g : Int) (w : World) (h : ¬ (0 ≤ s ∧ s ≤ 11 ∧ 0 ≤ g ∧ g ≤ 1073741823)) :
  Calls Tryz.prog 254 #[.int .i64 s, .int .i64 g] w fun e w' => e = .returned (.tuple #[.int .u64 0, .bool false]) ∧ Below w.heap.size w w' := by
 have hq := pair_eq
 by_cases c1 : s < 0
 ·have n1 : ¬ 0 < s := by omega
  have n2 : ¬ 11 < s := by omega
  have e1 : ((0 : Int) == s) = false := by simp; omega
  clear h
  go_enter Tryz.func254, Tryz.ntmps254
  go_wp2
  all_goals (go_ret2; exact ⟨rfl, below_alloc (Below.refl _ _) _⟩)
 ·by_cases c2 : 11 < s
  ·have e1 : ((11 : Int) == s) = false := by simp; omega
   clear h
   go_enter Tryz.func254, Tryz.ntmps254
   go_wp2
   all_goals (go_ret2; exact ⟨rfl, below_alloc (Below.refl _ _) _⟩)
  ·by_cases c3 : g < 0
   ·have n1 : ¬ 0 < g := by omega
    have n2 : ¬ 1073741823 < g := by omega
    have e1 : ((0 : Int) == g) = false := by simp; omega
    clear h
    go_enter Tryz.func254, Tryz.ntmps254
    go_wp2
    all_goals (go_ret2; exact ⟨rfl, below_alloc (Below.refl _ _) _⟩)
   ·have c4 : 1073741823 < g := by omega
    have e1 : ((1073741823 : Int) == g) = false := by simp; omega
    clear h
    go_enter Tryz.func254, Tryz.ntmps254
    go_wp2
    all_goals (go_ret2; exact ⟨rfl, below_alloc (Below.refl _ _) _⟩)
theorem Make_any (s g : Int) (w : World) :
  Calls Tryz.prog 254 #[.int .i64 s, .int .i64 g] w fun e w' => e = .returned (.tuple #[.int .u64 (makeW s g), .bool (makeB s g)]) ∧ Below w.heap.size w w' := by
 by_cases h : 0 ≤ s ∧ s ≤ 11 ∧ 0 ≤ g ∧ g ≤ 1073741823
 ·rw [(make_yes h).1, (make_yes h).2]
  exact Make_yes s g w h.1 h.2.1 h.2.2.1 h.2.2.2
 ·rw [(make_no h).1, (make_no h).2]
  exact Make_no s g w h
def ofB (h n : Int) : Bool := slotB h && decide (h % 16 - 1 < n ∧ h / 16 ≤ 1073741823)
def ofS (h n : Int) : Int := if ofB h n then h % 16 - 1 else 0
def ofG (h n : Int) : Int := if ofB h n then h / 16 else 0
theorem of_yes {h n : Int} (c : 1 ≤ h % 16 ∧ h % 16 ≤ 12 ∧ h % 16 - 1 < n ∧ h / 16 ≤ 1073741823) : ofB h n = true ∧ ofS h n = h % 16 - 1 ∧ ofG h n = h / 16 := by
 have e : ofB h n = true := by unfold ofB slotB; simp; omega
 exact ⟨e, by unfold ofS; rw [if_pos e], by unfold ofG; rw [if_pos e]⟩
theorem of_no {h n : Int} (c : ¬ (1 ≤ h % 16 ∧ h % 16 ≤ 12 ∧ h % 16 - 1 < n ∧ h / 16 ≤ 1073741823)) : ofB h n = false ∧ ofS h n = 0 ∧ ofG h n = 0 := by
 have e : ofB h n = false := by
  unfold ofB slotB
  simp
  omega
 exact ⟨e, by unfold ofS; rw [if_neg (by simp [e])], by unfold ofG; rw [if_neg (by simp [e])]⟩
theorem Of_any (x n : Int) (w : World) (h0 : 0 ≤ x) (h1 : x < 18446744073709551616) :
  Calls Tryz.prog 113 #[.int .u64 x, .int .i64 n] w fun e w' => e = .returned (.tuple #[.int .i64 (ofS x n), .int .i64 (ofG x n), .bool (ofB x n)]) ∧ Below w.heap.size w w' := by
 by_cases c1 : 1 ≤ x % 16 ∧ x % 16 ≤ 12
 ·obtain ⟨s1, s2⟩ := slot_yes c1
  by_cases c2 : x % 16 - 1 < n
  ·by_cases c3 : x / 16 ≤ 1073741823
   ·obtain ⟨e1, e2, e3⟩ := of_yes (h := x) (n := n) (by omega)
    have g1 : genOf x = x / 16 := by unfold genOf; split <;> omega
    rw [e1, e2, e3]
    clear e1 e2 e3
    go_enter Tryz.func113, Tryz.ntmps113
    go_wp2_with (first | (go_at_call 144; refine (Slot_any _ _ h0 h1).mono ?_; rintro e w1 ⟨rfl, hb1⟩) | (go_at_call 145; refine (Gen_any _ _ h0 h1).mono ?_; rintro e w2 ⟨rfl, hb2⟩))
    go_ret3
    exact ⟨rfl, by repeat (first | exact Below.refl _ _ | refine below_alloc ?_ _ | refine below_then ?_ (by assumption))⟩
   ·obtain ⟨e1, e2, e3⟩ := of_no (h := x) (n := n) (by omega)
    have g1 : genOf x = 1073741824 := by unfold genOf; split <;> omega
    rw [e1, e2, e3]
    clear e1 e2 e3
    go_enter Tryz.func113, Tryz.ntmps113
    go_wp2_with (first | (go_at_call 144; refine (Slot_any _ _ h0 h1).mono ?_; rintro e w1 ⟨rfl, hb1⟩) | (go_at_call 145; refine (Gen_any _ _ h0 h1).mono ?_; rintro e w2 ⟨rfl, hb2⟩))
    go_ret3
    exact ⟨rfl, by repeat (first | exact Below.refl _ _ | refine below_alloc ?_ _ | refine below_then ?_ (by assumption))⟩
  ·obtain ⟨e1, e2, e3⟩ := of_no (h := x) (n := n) (by omega)
   rw [e1, e2, e3]
   clear e1 e2 e3
   go_enter Tryz.func113, Tryz.ntmps113
   go_wp2_with (first | (go_at_call 144; refine (Slot_any _ _ h0 h1).mono ?_; rintro e w1 ⟨rfl, hb1⟩) | (go_at_call 145; refine (Gen_any _ _ h0 h1).mono ?_; rintro e w2 ⟨rfl, hb2⟩))
   go_ret3
   exact ⟨rfl, by repeat (first | exact Below.refl _ _ | refine below_alloc ?_ _ | refine below_then ?_ (by assumption))⟩
 ·obtain ⟨s1, s2⟩ := slot_no c1
  obtain ⟨e1, e2, e3⟩ := of_no (h := x) (n := n) (by omega)
  rw [e1, e2, e3]
  clear e1 e2 e3
  go_enter Tryz.func113, Tryz.ntmps113
  go_wp2_with (first | (go_at_call 144; refine (Slot_any _ _ h0 h1).mono ?_; rintro e w1 ⟨rfl, hb1⟩) | (go_at_call 145; refine (Gen_any _ _ h0 h1).mono ?_; rintro e w2 ⟨rfl, hb2⟩))
  go_ret3
  exact ⟨rfl, by repeat (first | exact Below.refl _ _ | refine below_alloc ?_ _ | refine below_then ?_ (by assumption))⟩
end Go.Proofs.YtfinmiakbpmjiaaGreat.Ti
namespace Go.Proofs.YtfinmiakbpmjiaaGreat.Ma
open Go.Proofs.YtfinmiakbpmjiaaGreat
open Go.RowKit
def plc (k s : Int) : Option Nat := if 0 ≤ k ∧ k ≤ 1 ∧ 0 ≤ s ∧ s < 12 then some (12 * k + s).toNat else none
def bitOf (k s : Int) : Nat := match plc k s with | some i => 2 ^ i | none => 0
theorem of_none {k s : Int} (h : ¬ (0 ≤ k ∧ k ≤ 1 ∧ 0 ≤ s ∧ s < 12)) : plc k s = none ∧ bitOf k s = 0 := by
 have e : plc k s = none := by unfold plc; rw [if_neg h]
 exact ⟨e, by unfold bitOf; rw [e]⟩
theorem of_some {k s : Int} (h : 0 ≤ k ∧ k ≤ 1 ∧ 0 ≤ s ∧ s < 12) : plc k s = some (12 * k + s).toNat ∧ bitOf k s = 2 ^ (12 * k + s).toNat := by
 have e : plc k s = some (12 * k + s).toNat := by unfold plc; rw [if_pos h]
 exact ⟨e, by unfold bitOf; rw [e]⟩
theorem wrap_cast (n : Nat) (h : n < 18446744073709551616) : IntKind.u64.wrap (n : Int) = (n : Int) := IntWalk.u64_in _ (by omega)
theorem wrap_pow (n : Nat) (h : n < 64) : IntKind.u64.wrap ((2 : Int) ^ n) = ((2 ^ n : Nat) : Int) := by
 have e : ((2 : Int) ^ n) = ((2 ^ n : Nat) : Int) := by simp
 rw [e]
 exact wrap_cast _ (lt_pow h)
theorem of_any (k s : Int) (w : World) :
  Calls Tryz.prog 233 #[.int .i64 k, .int .i64 s] w fun e w' => e = .returned (.int .u64 (bitOf k s)) ∧ Below w.heap.size w w' := by
 by_cases h : 0 ≤ k ∧ k ≤ 1 ∧ 0 ≤ s ∧ s < 12
 ·obtain ⟨_, h0⟩ := of_some h
  obtain ⟨h1, h2, h3, h4⟩ := h
  by_cases c : k = 0
  ·subst c
   have hp := wrap_pow s.toNat (by omega)
   have hp2 := wrap_cast (2 ^ s.toNat) (lt_pow (by omega))
   have hfin : Hid (((2 ^ s.toNat : Nat) : Int) = ((bitOf 0 s : Nat) : Int)) := by
    show _ = _
    rw [h0]; simp
   clear h0 h1 h2
   go_enter Tryz.func233, Tryz.ntmps233
   go_wp2
   go_ret
   exact ⟨by rw [← hfin.out]; simp, Below.refl _ _⟩
  ·obtain rfl : k = 1 := by omega
   have hp := wrap_pow s.toNat (by omega)
   have hlt : 2 ^ s.toNat * 4096 < 18446744073709551616 := by
    have : 2 ^ s.toNat ≤ 2 ^ 11 := Nat.pow_le_pow_right (by omega) (by omega)
    omega
   have hp2 := wrap_cast (2 ^ s.toNat * 4096) hlt
   have hfin : Hid (((2 ^ s.toNat * 4096 : Nat) : Int) = ((bitOf 1 s : Nat) : Int)) := by
    show _ = _
    rw [h0, show (12 * 1 + s).toNat = s.toNat + 12 by omega, Nat.pow_add]
   clear h0 h1 h2 c hlt
   go_enter Tryz.func233, Tryz.ntmps233
   go_wp2
   go_ret
   exact ⟨by rw [← hfin.out]; simp at hp2 ⊢; rw [hp2], Below.refl _ _⟩
 ·rw [(of_none h).2]
  by_cases c0 : k = 0
  ·subst c0
   by_cases c1 : s < 0
   ·clear h
    go_enter Tryz.func233, Tryz.ntmps233
    go_wp2
    go_ret
    exact ⟨rfl, Below.refl _ _⟩
   ·have c2 : 12 ≤ s := by omega
    clear h
    go_enter Tryz.func233, Tryz.ntmps233
    go_wp2
    go_ret
    exact ⟨rfl, Below.refl _ _⟩
  ·have n0 : (k != 0) = true := by simpa using c0
   by_cases c3 : k = 1
   ·subst c3
    by_cases c1 : s < 0
    ·clear h
     go_enter Tryz.func233, Tryz.ntmps233
     go_wp2
     go_ret
     exact ⟨rfl, Below.refl _ _⟩
    ·have c2 : 12 ≤ s := by omega
     clear h
     go_enter Tryz.func233, Tryz.ntmps233
     go_wp2
     go_ret
     exact ⟨rfl, Below.refl _ _⟩
   ·have n1 : (k != 1) = true := by simpa using c3
    clear h c0 c3
    go_enter Tryz.func233, Tryz.ntmps233
    go_wp2
    go_ret
    exact ⟨rfl, Below.refl _ _⟩
theorem bitOf_lt (k s : Int) : bitOf k s < 18446744073709551616 := by
 by_cases h : 0 ≤ k ∧ k ≤ 1 ∧ 0 ≤ s ∧ s < 12
 ·rw [(of_some h).2]; exact lt_pow (by omega)
 ·rw [(of_none h).2]; omega
def withW (w : Nat) (k s : Int) : Nat := w ||| bitOf k s
def hasW (w : Nat) (k s : Int) : Bool := match plc k s with | some i => w.testBit i | none => false
def dropW (w : Nat) (s : Int) : Nat := clr w (bitOf 0 s ||| bitOf 1 s)
theorem hasW_and (w : Nat) (k s : Int) : decide (0 < w &&& bitOf k s) = hasW w k s := by
 by_cases h : 0 ≤ k ∧ k ≤ 1 ∧ 0 ≤ s ∧ s < 12
 ·unfold hasW; rw [(of_some h).2, (of_some h).1]; exact and_pow_pos _ _
 ·unfold hasW; rw [(of_none h).2, (of_none h).1]; simp
theorem With_any (x : Nat) (k s : Int) (w : World) (hx : x < 18446744073709551616) :
  Calls Tryz.prog 232 #[.int .u64 x, .int .i64 k, .int .i64 s] w fun e w' => e = .returned (.int .u64 (withW x k s)) ∧ Below w.heap.size w w' := by
 have hg := go_or x (bitOf k s) hx (bitOf_lt k s)
 go_enter Tryz.func232, Tryz.ntmps232
 go_wp2_with (go_at_call 233; refine (of_any _ _ _).mono ?_; rintro e w1 ⟨rfl, hb1⟩)
 go_ret
 exact ⟨rfl, below_then (Below.refl _ _) hb1⟩
theorem Has_any (x : Nat) (k s : Int) (w : World) (hx : x < 18446744073709551616) :
  Calls Tryz.prog 207 #[.int .u64 x, .int .i64 k, .int .i64 s] w fun e w' => e = .returned (.bool (hasW x k s)) ∧ Below w.heap.size w w' := by
 have hg := go_and x (bitOf k s) hx (bitOf_lt k s)
 have hh : Hid (decide (0 < x &&& bitOf k s) = hasW x k s) := hasW_and x k s
 go_enter Tryz.func207, Tryz.ntmps207
 go_wp2_with (go_at_call 233; refine (of_any _ _ _).mono ?_; rintro e w1 ⟨rfl, hb1⟩)
 go_ret
 exact ⟨by rw [← hh.out]; simp, below_then (Below.refl _ _) hb1⟩
theorem Drop_any (x : Nat) (s : Int) (w : World) (hx : x < 18446744073709551616) :
  Calls Tryz.prog 285 #[.int .u64 x, .int .i64 s] w fun e w' => e = .returned (.int .u64 (dropW x s)) ∧ Below w.heap.size w w' := by
 have hg := go_or (bitOf 0 s) (bitOf 1 s) (bitOf_lt _ _) (bitOf_lt _ _)
 have hg2 := go_clr x (bitOf 0 s ||| bitOf 1 s) hx (lt_or (bitOf_lt _ _) (bitOf_lt _ _))
 go_enter Tryz.func285, Tryz.ntmps285
 go_wp2_with (go_at_call 233; refine (of_any _ _ _).mono ?_; rintro e w1 ⟨rfl, hb1⟩)
 go_ret
 exact ⟨rfl, by repeat (first | exact Below.refl _ _ | refine below_then ?_ (by assumption))⟩
end Go.Proofs.YtfinmiakbpmjiaaGreat.Ma
namespace Go.Proofs.YtfinmiakbpmjiaaGreat.Ma
open Go.Proofs.YtfinmiakbpmjiaaGreat
open Go.RowKit Go.Shelf
attribute [local go_sem] Oper.semAt_some
def upto (x : Nat) (k : Int) (m : Nat) : List Int := ((List.range m).filter fun i : Nat => hasW x k (i : Int)).map fun i : Nat => (i : Int)
theorem upto_hit {x : Nat} {k : Int} {m : Nat} (h : hasW x k (m : Int) = true) : upto x k (m + 1) = upto x k m ++ [(m : Int)] := by
 simp [upto, List.range_succ, List.filter_append, h]
theorem upto_miss {x : Nat} {k : Int} {m : Nat} (h : hasW x k (m : Int) = false) : upto x k (m + 1) = upto x k m := by
 simp [upto, List.range_succ, List.filter_append, h]
theorem upto_le (x : Nat) (k : Int) (m : Nat) : (upto x k m).length ≤ m := by
 unfold upto
 rw [List.length_map]
 exact Nat.le_trans (List.length_filter_le _ _) (by simp)
def K2 (Bw Bk : Nat) (W W' : World) : Prop := W'.heap[Bw]? = W.heap[Bw]? ∧ W'.heap[Bk]? = W.heap[Bk]?
theorem K2.trans {Bw Bk : Nat} {A B C : World} (h : K2 Bw Bk A B) (k : K2 Bw Bk B C) : K2 Bw Bk A C := ⟨k.1.trans h.1, k.2.trans h.2⟩
set_option maxRecDepth 100000 in
set_option maxHeartbeats 1000000 in
theorem all1 (l Bw Bk : Nat) (x : Nat) (hx : x < 18446744073709551616) (k : Int) (J Jx : List Int → World → Prop)
  (hY : ∀ pre y W, J pre W → pre.length < 12 → YieldAt Fence.wide 2 Tryz.prog l #[.int .i64 y] W fun e W' =>
   (e = .returned (.bool true) ∧ J (pre ++ [y]) W' ∧ K2 Bw Bk W W') ∨ (e = .returned (.bool false) ∧ Jx (pre ++ [y]) W'))
  (hJ : ∀ pre W W', J pre W → Below W.heap.size W W' → J pre W')
  (W : World) (hw : Boxed W Bw 22 (.int .u64 (x : Int))) (hk : Boxed W Bk 3 (.int .i64 k)) (h0 : J [] W) :
  CallsIn Fence.wide 3 Tryz.prog 260 #[.func (.yield l) #[] #[], .pointer (some ⟨Bw, 0, none⟩), .pointer (some ⟨Bk, 0, none⟩)] W fun e W' => (∃ v, e = .returned v) ∧
   ((∃ ys, ys = upto x k 12 ∧ J ys W') ∨ (∃ pre, Jx pre W')) := by
 refine callsIn_of_wp Tryz.func260 rfl trivial ?_ rfl
 simp only [Tryz.ntmps260, List.size_toArray, List.length_cons, List.length_nil, Nat.reduceAdd, Nat.reduceSub, Array.replicate_succ, Array.replicate_zero, List.push_toArray, List.append_toArray, List.nil_append, List.cons_append]
 gi_wp2
 gi_loopw [5] (fun p wr => ∃ m : Nat, m ≤ 12 ∧ p = .int .i64 (m : Int) ∧ J (upto x k m) wr ∧ Boxed wr Bw 22 (.int .u64 (x : Int)) ∧ Boxed wr Bk 3 (.int .i64 k)) (fun p _ => 12 - (intOf p).toNat)
 case atStart => exact ⟨0, by omega, rfl, h0, hw, hk⟩
 case round =>
  obtain ⟨m, hm, rfl, hJs, hBw, hBk⟩ := hrel
  have hw' := hBw.cell
  have hk' := hBk.cell
  by_cases hlt : m < 12
  ·cases hb : hasW x k (m : Int) with
   | true =>
    gi_wp2_with (refine ⟨trivial, ?_⟩; gi_at_call 207; refine (callsIn_wide.2 (Has_any x _ _ _ hx)).mono ?_; rintro e w1 ⟨rfl, hb1⟩; obtain ⟨fn, tmps, assign, body, hy, hR⟩ := hY _ (m : Int) w1 (hJ _ _ _ hJs hb1) (by have := upto_le x k m; omega))
    refine hR.mono ?_
    rintro e W3 (⟨rfl, hJ3, hk3⟩ | ⟨rfl, hJx3⟩)
    ·gi_wp2
     go_roundw
     case rel => exact ⟨m + 1, by omega, by go_num, by rw [upto_hit hb]; exact hJ3, (hk3.1.trans (hb1.block _ hBw.lt)).trans hBw, (hk3.2.trans (hb1.block _ hBk.lt)).trans hBk⟩
     case measure => simp [intOf]; omega
    ·gi_wp2
     refine bodyPost_ret (results_none rfl _ _ _) rfl ?_
     exact ⟨⟨_, rfl⟩, .inr ⟨_, hJx3⟩⟩
   | false =>
    gi_wp2_with (refine ⟨trivial, ?_⟩; gi_at_call 207; refine (callsIn_wide.2 (Has_any x _ _ _ hx)).mono ?_; rintro e w1 ⟨rfl, hb1⟩)
    all_goals (refine ⟨fun _ h => (by cases h), ?_⟩; gi_wp2)
    all_goals go_roundw
    all_goals first
     | exact ⟨m + 1, by omega, by go_num, by rw [upto_miss hb]; exact hJ _ _ _ hJs hb1, (hb1.block _ hBw.lt).trans hBw, (hb1.block _ hBk.lt).trans hBk⟩
     | (simp [intOf]; omega)
  ·obtain rfl : m = 12 := by omega
   gi_wp2
   go_end0
   exact ⟨⟨_, rfl⟩, .inl ⟨_, rfl, hJs⟩⟩
theorem all_stops (x : Nat) (hx : x < 18446744073709551616) (k : Int) (Bw Bk : Nat) (w : World) (hw : Boxed w Bw 22 (.int .u64 (x : Int))) (hk : Boxed w Bk 3 (.int .i64 k)) :
  SeqStopsK Fence.wide 3 Tryz.prog 260 #[.pointer (some ⟨Bw, 0, none⟩), .pointer (some ⟨Bk, 0, none⟩)] (fun y : Int => #[Value.int .i64 y]) (K2 Bw Bk) (fun ys => ys = upto x k 12) (fun _ => True) 12 w := by
 intro l J Jx W hW hJ _ hY h0
 refine (all1 l Bw Bk x hx k J Jx hY (fun pre A B hs hb => hJ pre A B none hs ⟨hb.os, hb.tape, hb.output, hb.size, fun i hi _ => hb.block i hi⟩ (fun r e => by cases e)) W ((hW.block _ hw.lt).trans hw) ((hW.block _ hk.lt).trans hk) h0).mono ?_
 rintro e W' ⟨hv, h | ⟨pre, hp⟩⟩
 ·exact ⟨hv, .inl h⟩
 ·exact ⟨hv, .inr ⟨pre, trivial, hp⟩⟩
end Go.Proofs.YtfinmiakbpmjiaaGreat.Ma
namespace Go.Proofs.YtfinmiakbpmjiaaGreat.Ma
open Go.Proofs.YtfinmiakbpmjiaaGreat
open Go.RowKit Go.Shelf
attribute [local go_sem] Oper.semAt_some
theorem all_in (x : Nat) (k : Int) (w : World) :
  CallsIn Fence.wide 3 Tryz.prog 236 #[.int .u64 (x : Int), .int .i64 k] w fun e w' => e = .returned (.func (.func 260) #[] #[.pointer (some ⟨w.heap.size, 0, none⟩), .pointer (some ⟨w.heap.size + 1, 0, none⟩)]) ∧ w' = (w.alloc (.cells #[.int .u64 (x : Int)] 22)).alloc (.cells #[.int .i64 k] 3) := by
 refine callsIn_of_wp Tryz.func236 rfl trivial ?_ rfl
 simp only [Tryz.ntmps236, List.size_toArray, List.length_cons, List.length_nil, Nat.reduceAdd, Nat.reduceSub, Array.replicate_succ, Array.replicate_zero, List.push_toArray, List.append_toArray, List.nil_append, List.cons_append]
 gi_wp2
 go_ret
 exact ⟨rfl, rfl⟩
theorem Tryz.info3 : (Tryz.prog.info? 3).map (fun i => (i.zero, i.size, i.bytes)) = some (some (.int .i64 0), 1, 8) := by kernel_rfl
def but (s : Int) (l : List Int) : List Int := l.filter fun y => y != s
theorem but_hit {s y : Int} (pre : List Int) (h : y ≠ s) : but s (pre ++ [y]) = but s pre ++ [y] := by simp [but, h]
theorem but_miss {s y : Int} (pre : List Int) (h : y = s) : but s (pre ++ [y]) = but s pre := by simp [but, h]
theorem own_base {w : World} {base : Nat} {e : TypeId} {size n : Nat} {v : Value} {xs : List Value} (h : w.ownsRow base e size v n xs) (k : Nat) (hk : v.ownBlock = some k) : base ≤ k := by
 rcases h.2 with ⟨rfl, _⟩ | ⟨g, cap, cur, rfl, hb, _⟩
 ·simp [Value.ownBlock] at hk
 ·have : g = k := by simpa [Value.ownBlock] using hk
  omega
theorem blk_appended {W w1 : World} {tmp : Obj} {base : Nat} {e : TypeId} {size n : Nat} {v v' : Value} {xs : List Value} (h : W.ownsRow base e size v n xs) (hg : (W.alloc tmp).grownBy w1 v.ownBlock) {i B : Nat} (hi : i < W.heap.size) (hb : i < base) (hne : i ≠ B) :
  (w1.setCell ⟨B, 0, none⟩ v').heap[i]? = W.heap[i]? := by
 rw [Below.heap_setCell _ _ _ _ hne, hg.block i (by simp; omega) (fun e' => by have := own_base h i e'.symm; omega), Below.heap_alloc _ _ _ hi]
set_option maxRecDepth 100000 in
set_option maxHeartbeats 2000000 in
theorem Others_in (x : Nat) (hx : x < 18446744073709551616) (k s : Int) (w : World) :
  CallsIn Fence.wide 4 Tryz.prog 209 #[.int .u64 (x : Int), .int .i64 k, .int .i64 s] w fun e W' => ∃ v, e = .returned v ∧ W'.ownsRow w.heap.size 3 1 v (but s (upto x k 12)).length ((but s (upto x k 12)).map (Value.int .i64)) ∧ Below w.heap.size w W' := by
 have h1 : 1 ≤ 4 := by omega
 obtain ⟨i0, hi, hz0, hz1, hz2⟩ := info_parts Tryz.info3
 refine callsIn_of_wp_marks Tryz.func209 rfl trivial ?_ rfl
 simp only [Tryz.ntmps209, List.size_toArray, List.length_cons, List.length_nil, Nat.reduceAdd, Nat.reduceSub, Array.replicate_succ, Array.replicate_zero, List.push_toArray, List.append_toArray, List.nil_append, List.cons_append]
 gi_wp2_with (refine ⟨trivial, ?_⟩; gi_at_call 236; refine (all_in _ _ _).mono ?_; rintro e w' ⟨rfl, rfl⟩)
 have bS : Boxed ((((w.alloc (.cells #[.int .i64 s] 3)).alloc (.cells #[.slice none 0 0] 58)).alloc (.cells #[.int .u64 (x : Int)] 22)).alloc (.cells #[.int .i64 k] 3)) w.heap.size 3 (.int .i64 s) := (((Boxed.new w 3 (.int .i64 s)).alloc _).alloc _).alloc _
 have bO := Boxed.new (w.alloc (.cells #[.int .i64 s] 3)) 58 (.slice none 0 0)
 rw [World.size_alloc] at bO
 have bW := Boxed.new ((w.alloc (.cells #[.int .i64 s] 3)).alloc (.cells #[.slice none 0 0] 58)) 22 (.int .u64 (x : Int))
 rw [World.size_alloc, World.size_alloc] at bW
 have bK := Boxed.new (((w.alloc (.cells #[.int .i64 s] 3)).alloc (.cells #[.slice none 0 0] 58)).alloc (.cells #[.int .u64 (x : Int)] 22)) 3 (.int .i64 k)
 rw [World.size_alloc, World.size_alloc, World.size_alloc] at bK
 have hB0 : Below w.heap.size w ((((w.alloc (.cells #[.int .i64 s] 3)).alloc (.cells #[.slice none 0 0] 58)).alloc (.cells #[.int .u64 (x : Int)] 22)).alloc (.cells #[.int .i64 k] 3)) := below_alloc (below_alloc (below_alloc (below_alloc (Below.refl _ _) _) _) _) _
 refine wpIn_rangeFunc_ownG rfl h1 (gf := 260) (lb := #[.pointer (some ⟨w.heap.size + 1 + 1, 0, none⟩), .pointer (some ⟨w.heap.size + 1 + 1 + 1, 0, none⟩)]) rfl trivial (enters_of Tryz.func260 (by kernel_rfl) rfl)
  (all_stops x hx k (w.heap.size + 1 + 1) (w.heap.size + 1 + 1 + 1) _ (bW.alloc _) bK) (fun {A B C} h k => K2.trans h k)
  (fun W l o o' hl ho _ _ => ⟨World.putObj_heap_other (by simp at hl; omega), World.putObj_heap_other (by simp at hl; omega)⟩) (Below.refl _ _) (fun _ => rfl)
  (fun pre W => (∃ v, Boxed W (w.heap.size + 1) 58 v ∧ W.ownsRow (w.heap.size + 4) 3 1 v (but s pre).length ((but s pre).map (Value.int .i64)) ∧ True) ∧ (Boxed W w.heap.size 3 (.int .i64 s) ∧ (Below w.heap.size w W ∧ w.heap.size + 4 ≤ W.heap.size)))
  (fun _ _ _ => False)
  (OwnFrom.and (Own.from (holdsRow_own (w.heap.size + 4) (w.heap.size + 1) 58 3 1 (fun pre => (but s pre).length) (fun pre => (but s pre).map (Value.int .i64)) (fun _ _ => True)) _) (OwnFrom.and (Own.from (boxed_own w.heap.size 3 (fun _ => .int .i64 s)) _) (OwnFrom.and (ownFrom_below (Nat.le_refl _) (by simp; omega)) (fun _ _ _ _ hs hg _ => Nat.le_trans hs hg.size))))
  (fun _ _ _ _ _ hs _ _ => hs)
  ⟨⟨_, (bO.alloc _).alloc _, World.ownsRow_nil _ _ _ _, trivial⟩, bS, hB0, by simp⟩
  (fun y => { tmps := #[.int .u64 (x : Int), .int .i64 k, .int .i64 s, undef, undef, .pointer (some ⟨w.heap.size, 0, none⟩), .slice none 0 0, .pointer (some ⟨w.heap.size + 1, 0, none⟩), .int .i64 y, .int .u64 (x : Int), .int .i64 k, .func (.func 260) #[] #[.pointer (some ⟨w.heap.size + 1 + 1, 0, none⟩), .pointer (some ⟨w.heap.size + 1 + 1 + 1, 0, none⟩)], .int .i64 y, undef, undef, undef, undef, undef, undef, undef, undef], defers := [] }) ?assign ?body ?done ?stop
 case assign =>
  intro l y W K hK
  gi_wp2
  exact hK
 case body =>
  rintro l pre y W ⟨⟨v, hv, hrow, _⟩, hS, hB, hsz⟩ hlt
  have hc := hv.cell
  have hcs := hS.cell
  have hpl : (but s pre).length ≤ pre.length := List.length_filter_le _ _
  have hrow1 : W.ownsRow (w.heap.size + 1) 3 1 v (but s pre).length ((but s pre).map (Value.int .i64)) := Go.Joins.ownsRow_le hrow (by omega)
  cases hys : (y != s) with
  | true =>
   have hne : y ≠ s := by simpa using hys
   gi_wp2_with (gi_at_builtin; refine wpListIn_append_own _ rfl _ _ 58 rfl (w.heap.size + 4) 3 i0 (.int .i64 0) 1 8 Tryz.underlying58 hi hz0 hz1 hz2 rfl (by decide) _ _ _ rfl (hrow.alloc _) ⟨W.heap.size, 0, none⟩ 1 1 [.int .i64 y] rfl rfl (cell_one_new _ _ _) (by simp [Value.oneCell']) (by unfold maxLen; omega) (by omega) (by simp; omega) ?_; intro v' w1 hown' hgrow _; obtain ⟨g', cap', rfl⟩ := ownsRow_succ hown'; obtain ⟨hv1, hv2, hr2, hk2, hb2⟩ := hv.appended (by decide) hrow1 (by omega) (Nat.le_refl _) (Go.Joins.ownsRow_le hown' (by omega)) hgrow; have hc1 := hv1.cell; have hf1 := hv1.frozen)
   refine ⟨hk2.from _, ⟨blk_appended hrow hgrow (by omega) (by omega) (by omega), blk_appended hrow hgrow (by omega) (by omega) (by omega)⟩, ⟨_, hv2, ?_, trivial⟩, (blk_appended hrow hgrow (by omega) (by omega) (by omega)).trans hS, hB.trans (hb2.mono (by omega)), Nat.le_trans hsz hb2.size⟩
   have hr3 := hown'.kept (grownBy_setCell' w1 (w.heap.size + 1) (Value.slice (some ⟨g', 0, none⟩) ((but s pre).length + 1) cap')) (.inr (hv1.not_row (by decide) hown').symm)
   rw [but_hit pre hne]
   simpa using hr3
  | false =>
   have hne : y = s := by simpa using hys
   gi_wp2
   exact ⟨KeepsFrom.refl _ _, ⟨rfl, rfl⟩, ⟨v, hv, by rw [but_miss pre hne]; exact hrow, trivial⟩, hS, hB, hsz⟩
 case done =>
  rintro D ys W hD rfl ⟨⟨v, hv, hrow, _⟩, hS, hB, hsz⟩ hK
  have hc := hv.cell
  gi_wp2
  refine ⟨by simp, .inl ⟨_, _, rfl, run_takeDeferred hK, ?_⟩⟩
  exact ⟨_, results_tmp rfl _ _ _, v, rfl, ownsRow_putObj (Go.Joins.ownsRow_le hrow (by omega)) _ hK rfl, hB.trans (belowK_b (w := w) (Nat.le_refl _) W D _ _ (by simp at hD; omega) hK rfl rfl)⟩
 case stop =>
  rintro D c pre W _ _ h _
  exact h.elim
end Go.Proofs.YtfinmiakbpmjiaaGreat.Ma
