/-
  Tickets made and taken apart, and the example that each law of them bears.
-/
import Derived.Test.YtiklggbegdpaaaaA
namespace Go.Proofs.Ytiklggbegdpaaaa
open Go.RowKit
set_option linter.unusedVariables false
set_option linter.unusedSimpArgs false
attribute [local go_sem] max2_int min2_int max_two min_two
def makeB (s g : Int) : Bool := decide (0 ≤ s ∧ s ≤ 11 ∧ 0 ≤ g ∧ g ≤ 1073741823)
def makeW (s g : Int) : Int := if makeB s g then 16 * g + (s + 1) else 0
theorem make_yes {s g : Int} (c : 0 ≤ s ∧ s ≤ 11 ∧ 0 ≤ g ∧ g ≤ 1073741823) : makeB s g = true ∧ makeW s g = 16 * g + (s + 1) := by
  have e : makeB s g = true := by unfold makeB; exact decide_eq_true c
  exact ⟨e, by unfold makeW; rw [if_pos e]⟩
theorem make_no {s g : Int} (c : ¬ (0 ≤ s ∧ s ≤ 11 ∧ 0 ≤ g ∧ g ≤ 1073741823)) : makeB s g = false ∧ makeW s g = 0 := by
  have e : makeB s g = false := by unfold makeB; exact decide_eq_false c
  exact ⟨e, by unfold makeW; rw [if_neg (by simp [e])]⟩
set_option maxHeartbeats 1000000 in
theorem Make_yes (s g : Int) (w : World) (h0 : 0 ≤ s) (h1 : s ≤ 11) (h2 : 0 ≤ g) (h3 : g ≤ 1073741823) :
    Calls Try.prog 9 #[.int .i64 s, .int .i64 g] w fun e w' => e = .returned (.tuple #[.int .u64 (16 * g + (s + 1)), .bool true]) ∧ Below w.heap.size w w' := by
  have hb : Hid (bits .or .u64 (s + 1) (g * 16) = 16 * g + (s + 1)) := by
    show _ = _
    rw [or_comm64, join64 4 _ _ (by omega) (by omega) (by omega) (by omega) (by omega) (by omega)]
    omega
  have hq := pair_eq
  by_cases z1 : s = 0
  · by_cases z2 : g = 0
    · subst z1 z2
      go_enter Try.func9, Try.ntmps9
      go_wp2_with (first | (go_at_call 18; refine (fields_any _).mono ?_; rintro e w1 ⟨rfl, hb1⟩))
      have g1 := fun d os => cell_regrown (w := w1.alloc (.cells #[.func (.func 20) #[] #[], .func (.func 21) #[] #[], .func (.func 22) #[] #[], .func (.func 23) #[] #[]] 40)) (a := ⟨w1.heap.size, 1, none⟩) (v := .func (.func 21) #[] #[]) (by simp) d os
      have g3 := fun d os => cell_regrown (w := w1.alloc (.cells #[.func (.func 20) #[] #[], .func (.func 21) #[] #[], .func (.func 22) #[] #[], .func (.func 23) #[] #[]] 40)) (a := ⟨w1.heap.size, 3, none⟩) (v := .func (.func 23) #[] #[]) (by simp) d os
      refine wp_region_quiet_below (by kernel_rfl) (by kernel_rfl) ?_
      repeat (go_big_quiet_step (first | (go_at_call 21; exact quiet_call (f21b _ _ (by omega) (by omega))) | (go_at_call 23; exact quiet_call (f23b _ _ (by omega) (by omega)))))
      refine wpQuiet_nil ?_
      rintro w3 ⟨r3, rfl⟩
      go_wp2
      go_ret2
      exact ⟨by rw [← hb.out]; simp, below_regrow (below_alloc (below_then (below_alloc (Below.refl _ _) _) hb1) _) _ _⟩
    · have z3 : 0 < g := by omega
      subst z1
      go_enter Try.func9, Try.ntmps9
      go_wp2_with (first | (go_at_call 18; refine (fields_any _).mono ?_; rintro e w1 ⟨rfl, hb1⟩))
      have g1 := fun d os => cell_regrown (w := w1.alloc (.cells #[.func (.func 20) #[] #[], .func (.func 21) #[] #[], .func (.func 22) #[] #[], .func (.func 23) #[] #[]] 40)) (a := ⟨w1.heap.size, 1, none⟩) (v := .func (.func 21) #[] #[]) (by simp) d os
      have g3 := fun d os => cell_regrown (w := w1.alloc (.cells #[.func (.func 20) #[] #[], .func (.func 21) #[] #[], .func (.func 22) #[] #[], .func (.func 23) #[] #[]] 40)) (a := ⟨w1.heap.size, 3, none⟩) (v := .func (.func 23) #[] #[]) (by simp) d os
      refine wp_region_quiet_below (by kernel_rfl) (by kernel_rfl) ?_
      repeat (go_big_quiet_step (first | (go_at_call 21; exact quiet_call (f21b _ _ (by omega) (by omega))) | (go_at_call 23; exact quiet_call (f23b _ _ (by omega) (by omega)))))
      refine wpQuiet_nil ?_
      rintro w3 ⟨r3, rfl⟩
      go_wp2
      go_ret2
      exact ⟨by rw [← hb.out]; simp, below_regrow (below_alloc (below_then (below_alloc (Below.refl _ _) _) hb1) _) _ _⟩
  · have z4 : 0 < s := by omega
    by_cases z2 : g = 0
    · subst z2
      go_enter Try.func9, Try.ntmps9
      go_wp2_with (first | (go_at_call 18; refine (fields_any _).mono ?_; rintro e w1 ⟨rfl, hb1⟩))
      have g1 := fun d os => cell_regrown (w := w1.alloc (.cells #[.func (.func 20) #[] #[], .func (.func 21) #[] #[], .func (.func 22) #[] #[], .func (.func 23) #[] #[]] 40)) (a := ⟨w1.heap.size, 1, none⟩) (v := .func (.func 21) #[] #[]) (by simp) d os
      have g3 := fun d os => cell_regrown (w := w1.alloc (.cells #[.func (.func 20) #[] #[], .func (.func 21) #[] #[], .func (.func 22) #[] #[], .func (.func 23) #[] #[]] 40)) (a := ⟨w1.heap.size, 3, none⟩) (v := .func (.func 23) #[] #[]) (by simp) d os
      refine wp_region_quiet_below (by kernel_rfl) (by kernel_rfl) ?_
      repeat (go_big_quiet_step (first | (go_at_call 21; exact quiet_call (f21b _ _ (by omega) (by omega))) | (go_at_call 23; exact quiet_call (f23b _ _ (by omega) (by omega)))))
      refine wpQuiet_nil ?_
      rintro w3 ⟨r3, rfl⟩
      go_wp2
      go_ret2
      exact ⟨by rw [← hb.out]; simp, below_regrow (below_alloc (below_then (below_alloc (Below.refl _ _) _) hb1) _) _ _⟩
    · have z3 : 0 < g := by omega
      go_enter Try.func9, Try.ntmps9
      go_wp2_with (first | (go_at_call 18; refine (fields_any _).mono ?_; rintro e w1 ⟨rfl, hb1⟩))
      have g1 := fun d os => cell_regrown (w := w1.alloc (.cells #[.func (.func 20) #[] #[], .func (.func 21) #[] #[], .func (.func 22) #[] #[], .func (.func 23) #[] #[]] 40)) (a := ⟨w1.heap.size, 1, none⟩) (v := .func (.func 21) #[] #[]) (by simp) d os
      have g3 := fun d os => cell_regrown (w := w1.alloc (.cells #[.func (.func 20) #[] #[], .func (.func 21) #[] #[], .func (.func 22) #[] #[], .func (.func 23) #[] #[]] 40)) (a := ⟨w1.heap.size, 3, none⟩) (v := .func (.func 23) #[] #[]) (by simp) d os
      refine wp_region_quiet_below (by kernel_rfl) (by kernel_rfl) ?_
      repeat (go_big_quiet_step (first | (go_at_call 21; exact quiet_call (f21b _ _ (by omega) (by omega))) | (go_at_call 23; exact quiet_call (f23b _ _ (by omega) (by omega)))))
      refine wpQuiet_nil ?_
      rintro w3 ⟨r3, rfl⟩
      go_wp2
      go_ret2
      exact ⟨by rw [← hb.out]; simp, below_regrow (below_alloc (below_then (below_alloc (Below.refl _ _) _) hb1) _) _ _⟩
set_option maxHeartbeats 1000000 in
theorem Make_no (s g : Int) (w : World) (h : ¬ (0 ≤ s ∧ s ≤ 11 ∧ 0 ≤ g ∧ g ≤ 1073741823)) :
    Calls Try.prog 9 #[.int .i64 s, .int .i64 g] w fun e w' => e = .returned (.tuple #[.int .u64 0, .bool false]) ∧ Below w.heap.size w w' := by
  have hq := pair_eq
  by_cases c1 : s < 0
  · have n1 : ¬ 0 < s := by omega
    have n2 : ¬ 11 < s := by omega
    have e1 : ((0 : Int) == s) = false := by simp; omega
    clear h
    go_enter Try.func9, Try.ntmps9
    go_wp2
    all_goals (go_ret2; exact ⟨rfl, below_alloc (Below.refl _ _) _⟩)
  · by_cases c2 : 11 < s
    · have e1 : ((11 : Int) == s) = false := by simp; omega
      clear h
      go_enter Try.func9, Try.ntmps9
      go_wp2
      all_goals (go_ret2; exact ⟨rfl, below_alloc (Below.refl _ _) _⟩)
    · by_cases c3 : g < 0
      · have n1 : ¬ 0 < g := by omega
        have n2 : ¬ 1073741823 < g := by omega
        have e1 : ((0 : Int) == g) = false := by simp; omega
        clear h
        go_enter Try.func9, Try.ntmps9
        go_wp2
        all_goals (go_ret2; exact ⟨rfl, below_alloc (Below.refl _ _) _⟩)
      · have c4 : 1073741823 < g := by omega
        have e1 : ((1073741823 : Int) == g) = false := by simp; omega
        clear h
        go_enter Try.func9, Try.ntmps9
        go_wp2
        all_goals (go_ret2; exact ⟨rfl, below_alloc (Below.refl _ _) _⟩)
theorem Make_any (s g : Int) (w : World) :
    Calls Try.prog 9 #[.int .i64 s, .int .i64 g] w fun e w' => e = .returned (.tuple #[.int .u64 (makeW s g), .bool (makeB s g)]) ∧ Below w.heap.size w w' := by
  by_cases h : 0 ≤ s ∧ s ≤ 11 ∧ 0 ≤ g ∧ g ≤ 1073741823
  · rw [(make_yes h).1, (make_yes h).2]
    exact Make_yes s g w h.1 h.2.1 h.2.2.1 h.2.2.2
  · rw [(make_no h).1, (make_no h).2]
    exact Make_no s g w h
theorem RMake_any (s g : Int) (w : World) :
    Calls Try.prog 10 #[.int .i64 s, .int .i64 g] w fun e w' => e = .returned (.tuple #[.int .u64 (makeW s g), .bool (makeB s g)]) ∧ Below w.heap.size w w' := by
  by_cases h : 0 ≤ s ∧ s ≤ 11 ∧ 0 ≤ g ∧ g ≤ 1073741823
  · rw [(make_yes h).1, (make_yes h).2]
    obtain ⟨h1, h2, h3, h4⟩ := h
    go_enter Try.func10, Try.ntmps10
    go_wp2
    go_ret2
    exact ⟨by simp; omega, Below.refl _ _⟩
  · rw [(make_no h).1, (make_no h).2]
    by_cases c1 : s < 0
    · clear h
      go_enter Try.func10, Try.ntmps10
      go_wp2
      go_ret2
      exact ⟨rfl, Below.refl _ _⟩
    · by_cases c2 : 11 < s
      · clear h
        go_enter Try.func10, Try.ntmps10
        go_wp2
        go_ret2
        exact ⟨rfl, Below.refl _ _⟩
      · by_cases c3 : g < 0
        · clear h
          go_enter Try.func10, Try.ntmps10
          go_wp2
          go_ret2
          exact ⟨rfl, Below.refl _ _⟩
        · have c4 : 1073741823 < g := by omega
          clear h
          go_enter Try.func10, Try.ntmps10
          go_wp2
          go_ret2
          exact ⟨rfl, Below.refl _ _⟩
/-! ### Of -/
def ofB (h n : Int) : Bool := slotB h && decide (h % 16 - 1 < n ∧ h / 16 ≤ 1073741823)
def ofS (h n : Int) : Int := if ofB h n then h % 16 - 1 else 0
def ofG (h n : Int) : Int := if ofB h n then h / 16 else 0
theorem of_yes {h n : Int} (c : 1 ≤ h % 16 ∧ h % 16 ≤ 12 ∧ h % 16 - 1 < n ∧ h / 16 ≤ 1073741823) : ofB h n = true ∧ ofS h n = h % 16 - 1 ∧ ofG h n = h / 16 := by
  have e : ofB h n = true := by unfold ofB slotB; simp; omega
  exact ⟨e, by unfold ofS; rw [if_pos e], by unfold ofG; rw [if_pos e]⟩
theorem of_no {h n : Int} (c : ¬ (1 ≤ h % 16 ∧ h % 16 ≤ 12 ∧ h % 16 - 1 < n ∧ h / 16 ≤ 1073741823)) : ofB h n = false ∧ ofS h n = 0 ∧ ofG h n = 0 := by
  have e : ofB h n = false := by
    unfold ofB slotB
    simp
    omega
  exact ⟨e, by unfold ofS; rw [if_neg (by simp [e])], by unfold ofG; rw [if_neg (by simp [e])]⟩
theorem Of_any (x n : Int) (w : World) (h0 : 0 ≤ x) (h1 : x < 18446744073709551616) :
    Calls Try.prog 16 #[.int .u64 x, .int .i64 n] w fun e w' => e = .returned (.tuple #[.int .i64 (ofS x n), .int .i64 (ofG x n), .bool (ofB x n)]) ∧ Below w.heap.size w w' := by
  by_cases c1 : 1 ≤ x % 16 ∧ x % 16 ≤ 12
  · obtain ⟨s1, s2⟩ := slot_yes c1
    by_cases c2 : x % 16 - 1 < n
    · by_cases c3 : x / 16 ≤ 1073741823
      · obtain ⟨e1, e2, e3⟩ := of_yes (h := x) (n := n) (by omega)
        have g1 : genOf x = x / 16 := by unfold genOf; split <;> omega
        rw [e1, e2, e3]
        clear e1 e2 e3
        go_enter Try.func16, Try.ntmps16
        go_wp2_with (first | (go_at_call 11; refine (Slot_any _ _ h0 h1).mono ?_; rintro e w1 ⟨rfl, hb1⟩) | (go_at_call 13; refine (Gen_any _ _ h0 h1).mono ?_; rintro e w2 ⟨rfl, hb2⟩))
        go_ret3
        exact ⟨rfl, by repeat (first | exact Below.refl _ _ | refine below_alloc ?_ _ | refine below_then ?_ (by assumption))⟩
      · obtain ⟨e1, e2, e3⟩ := of_no (h := x) (n := n) (by omega)
        have g1 : genOf x = 1073741824 := by unfold genOf; split <;> omega
        rw [e1, e2, e3]
        clear e1 e2 e3
        go_enter Try.func16, Try.ntmps16
        go_wp2_with (first | (go_at_call 11; refine (Slot_any _ _ h0 h1).mono ?_; rintro e w1 ⟨rfl, hb1⟩) | (go_at_call 13; refine (Gen_any _ _ h0 h1).mono ?_; rintro e w2 ⟨rfl, hb2⟩))
        go_ret3
        exact ⟨rfl, by repeat (first | exact Below.refl _ _ | refine below_alloc ?_ _ | refine below_then ?_ (by assumption))⟩
    · obtain ⟨e1, e2, e3⟩ := of_no (h := x) (n := n) (by omega)
      rw [e1, e2, e3]
      clear e1 e2 e3
      go_enter Try.func16, Try.ntmps16
      go_wp2_with (first | (go_at_call 11; refine (Slot_any _ _ h0 h1).mono ?_; rintro e w1 ⟨rfl, hb1⟩) | (go_at_call 13; refine (Gen_any _ _ h0 h1).mono ?_; rintro e w2 ⟨rfl, hb2⟩))
      go_ret3
      exact ⟨rfl, by repeat (first | exact Below.refl _ _ | refine below_alloc ?_ _ | refine below_then ?_ (by assumption))⟩
  · obtain ⟨s1, s2⟩ := slot_no c1
    obtain ⟨e1, e2, e3⟩ := of_no (h := x) (n := n) (by omega)
    rw [e1, e2, e3]
    clear e1 e2 e3
    go_enter Try.func16, Try.ntmps16
    go_wp2_with (first | (go_at_call 11; refine (Slot_any _ _ h0 h1).mono ?_; rintro e w1 ⟨rfl, hb1⟩) | (go_at_call 13; refine (Gen_any _ _ h0 h1).mono ?_; rintro e w2 ⟨rfl, hb2⟩))
    go_ret3
    exact ⟨rfl, by repeat (first | exact Below.refl _ _ | refine below_alloc ?_ _ | refine below_then ?_ (by assumption))⟩
theorem ROf_any (x n : Int) (w : World) (h0 : 0 ≤ x) (h1 : x < 18446744073709551616) :
    Calls Try.prog 17 #[.int .u64 x, .int .i64 n] w fun e w' => e = .returned (.tuple #[.int .i64 (ofS x n), .int .i64 (ofG x n), .bool (ofB x n)]) ∧ Below w.heap.size w w' := by
  by_cases c1 : 1 ≤ x % 16 ∧ x % 16 ≤ 12
  · obtain ⟨s1, s2⟩ := slot_yes c1
    by_cases c2 : x % 16 - 1 < n
    · by_cases c3 : x / 16 ≤ 1073741823
      · obtain ⟨e1, e2, e3⟩ := of_yes (h := x) (n := n) (by omega)
        have g1 : genOf x = x / 16 := by unfold genOf; split <;> omega
        rw [e1, e2, e3]
        clear e1 e2 e3
        go_enter Try.func17, Try.ntmps17
        go_wp2_with (first | (go_at_call 14; refine (RSlot_any _ _ h0 h1).mono ?_; rintro e w1 ⟨rfl, hb1⟩) | (go_at_call 15; refine (RGen_any _ _ h0 h1).mono ?_; rintro e w2 ⟨rfl, hb2⟩))
        go_ret3
        exact ⟨rfl, by repeat (first | exact Below.refl _ _ | refine below_alloc ?_ _ | refine below_then ?_ (by assumption))⟩
      · obtain ⟨e1, e2, e3⟩ := of_no (h := x) (n := n) (by omega)
        have g1 : genOf x = 1073741824 := by unfold genOf; split <;> omega
        rw [e1, e2, e3]
        clear e1 e2 e3
        go_enter Try.func17, Try.ntmps17
        go_wp2_with (first | (go_at_call 14; refine (RSlot_any _ _ h0 h1).mono ?_; rintro e w1 ⟨rfl, hb1⟩) | (go_at_call 15; refine (RGen_any _ _ h0 h1).mono ?_; rintro e w2 ⟨rfl, hb2⟩))
        go_ret3
        exact ⟨rfl, by repeat (first | exact Below.refl _ _ | refine below_alloc ?_ _ | refine below_then ?_ (by assumption))⟩
    · obtain ⟨e1, e2, e3⟩ := of_no (h := x) (n := n) (by omega)
      rw [e1, e2, e3]
      clear e1 e2 e3
      go_enter Try.func17, Try.ntmps17
      go_wp2_with (first | (go_at_call 14; refine (RSlot_any _ _ h0 h1).mono ?_; rintro e w1 ⟨rfl, hb1⟩) | (go_at_call 15; refine (RGen_any _ _ h0 h1).mono ?_; rintro e w2 ⟨rfl, hb2⟩))
      go_ret3
      exact ⟨rfl, by repeat (first | exact Below.refl _ _ | refine below_alloc ?_ _ | refine below_then ?_ (by assumption))⟩
  · obtain ⟨s1, s2⟩ := slot_no c1
    obtain ⟨e1, e2, e3⟩ := of_no (h := x) (n := n) (by omega)
    rw [e1, e2, e3]
    clear e1 e2 e3
    go_enter Try.func17, Try.ntmps17
    go_wp2_with (first | (go_at_call 14; refine (RSlot_any _ _ h0 h1).mono ?_; rintro e w1 ⟨rfl, hb1⟩) | (go_at_call 15; refine (RGen_any _ _ h0 h1).mono ?_; rintro e w2 ⟨rfl, hb2⟩))
    go_ret3
    exact ⟨rfl, by repeat (first | exact Below.refl _ _ | refine below_alloc ?_ _ | refine below_then ?_ (by assumption))⟩
/-! ### alive -/
theorem alive_any (w : World) : Calls Try.prog 12 #[] w fun e w' => e = .returned (.bool true) ∧ Below w.heap.size w w' := by
  have n1 : makeW 2 5 = 83 := by decide
  have n2 : makeB 2 5 = true := by decide
  have n3 : makeW 12 0 = 0 := by decide
  have n4 : makeB 12 0 = false := by decide
  have p1 : slotN 83 = 2 := by decide
  have p2 : slotB 83 = true := by decide
  have p3 : slotB 16 = false := by decide
  have p4 : genOf 83 = 5 := by decide
  have q1 : ofB 83 3 = true := by decide
  have q2 : ofS 83 3 = 2 := by decide
  have q3 : ofG 83 3 = 5 := by decide
  have q4 : ofB 83 2 = false := by decide
  go_enter Try.func12, Try.ntmps12
  go_wp2_with (first
    | (go_at_call 9; refine (Make_any _ _ _).mono ?_; rintro e w1 ⟨rfl, hb1⟩)
    | (go_at_call 11; refine (Slot_any _ _ (by omega) (by omega)).mono ?_; rintro e w2 ⟨rfl, hb2⟩)
    | (go_at_call 13; refine (Gen_any _ _ (by omega) (by omega)).mono ?_; rintro e w3 ⟨rfl, hb3⟩)
    | (go_at_call 16; refine (Of_any _ _ _ (by omega) (by omega)).mono ?_; rintro e w4 ⟨rfl, hb4⟩))
  go_ret
  exact ⟨rfl, by repeat (first | exact Below.refl _ _ | refine below_alloc ?_ _ | refine below_then ?_ (by assumption))⟩
end Go.Proofs.Ytiklggbegdpaaaa
