/-
  The walks of the laws TicketMakes, TicketParts, TicketOf, TicketNext.
-/
import Derived.Test.YtiklggbegdpaaaaB
namespace Go.Proofs.Ytiklggbegdpaaaa
open Go.RowKit
set_option linter.unusedVariables false
set_option linter.unusedSimpArgs false
theorem make_back {s g : Int} (c : 0 ≤ s ∧ s ≤ 11 ∧ 0 ≤ g ∧ g ≤ 1073741823) :
    makeB s g = true ∧ 0 ≤ makeW s g ∧ makeW s g < 18446744073709551616 ∧ slotB (makeW s g) = true ∧ slotN (makeW s g) = s ∧ genOf (makeW s g) = g := by
  obtain ⟨e1, e2⟩ := make_yes c
  have e3 := slot_yes (h := makeW s g) (by rw [e2]; omega)
  refine ⟨e1, by rw [e2]; omega, by rw [e2]; omega, e3.1, by rw [e3.2, e2]; omega, ?_⟩
  unfold genOf
  rw [e2]
  split <;> omega
theorem TicketMakes_walk (s : Int) (ws : (Lit.int .i64 s).wf = true) (g : Int) (wg : (Lit.int .i64 g).wf = true) (w : World) :
    Calls Try.prog 3 #[.int .i64 s, .int .i64 g] w fun e w' => e = .returned (.bool true) ∧ Below w.heap.size w w' := by
  clear ws wg
  by_cases c : 0 ≤ s ∧ s ≤ 11 ∧ 0 ≤ g ∧ g ≤ 1073741823
  · obtain ⟨e1, e2, e3, e4, e5, e6⟩ := make_back c
    clear c
    go_enter Try.func3, Try.ntmps3
    go_wp2_with (first
      | (go_at_call 9; refine (Make_any _ _ _).mono ?_; rintro e w1 ⟨rfl, hb1⟩)
      | (go_at_call 10; refine (RMake_any _ _ _).mono ?_; rintro e w2 ⟨rfl, hb2⟩)
      | (go_at_call 11; refine (Slot_any _ _ (by assumption) (by assumption)).mono ?_; rintro e w3 ⟨rfl, hb3⟩)
      | (go_at_call 13; refine (Gen_any _ _ (by assumption) (by assumption)).mono ?_; rintro e w4 ⟨rfl, hb4⟩)
      | (go_at_call 14; refine (RSlot_any _ _ (by assumption) (by assumption)).mono ?_; rintro e w5 ⟨rfl, hb5⟩)
      | (go_at_call 15; refine (RGen_any _ _ (by assumption) (by assumption)).mono ?_; rintro e w6 ⟨rfl, hb6⟩)
      | (go_at_call 16; refine (Of_any _ _ _ (by assumption) (by assumption)).mono ?_; rintro e w7 ⟨rfl, hb7⟩)
      | (go_at_call 17; refine (ROf_any _ _ _ (by assumption) (by assumption)).mono ?_; rintro e w8 ⟨rfl, hb8⟩)
      | (go_at_call 12; refine (alive_any _).mono ?_; rintro e w9 ⟨rfl, hb9⟩))
    go_ret
    exact ⟨rfl, by repeat (first | exact Below.refl _ _ | refine below_alloc ?_ _ | refine below_then ?_ (by assumption))⟩
  · obtain ⟨e1, e2⟩ := make_no c
    clear c
    have z1 : (0 : Int) ≤ 0 := by omega
    have z2 : (0 : Int) < 18446744073709551616 := by omega
    have z3 : slotB 0 = false := by decide
    have z4 : slotN 0 = 0 := by decide
    go_enter Try.func3, Try.ntmps3
    go_wp2_with (first
      | (go_at_call 9; refine (Make_any _ _ _).mono ?_; rintro e w1 ⟨rfl, hb1⟩)
      | (go_at_call 10; refine (RMake_any _ _ _).mono ?_; rintro e w2 ⟨rfl, hb2⟩)
      | (go_at_call 11; refine (Slot_any _ _ (by assumption) (by assumption)).mono ?_; rintro e w3 ⟨rfl, hb3⟩)
      | (go_at_call 13; refine (Gen_any _ _ (by assumption) (by assumption)).mono ?_; rintro e w4 ⟨rfl, hb4⟩)
      | (go_at_call 14; refine (RSlot_any _ _ (by assumption) (by assumption)).mono ?_; rintro e w5 ⟨rfl, hb5⟩)
      | (go_at_call 15; refine (RGen_any _ _ (by assumption) (by assumption)).mono ?_; rintro e w6 ⟨rfl, hb6⟩)
      | (go_at_call 16; refine (Of_any _ _ _ (by assumption) (by assumption)).mono ?_; rintro e w7 ⟨rfl, hb7⟩)
      | (go_at_call 17; refine (ROf_any _ _ _ (by assumption) (by assumption)).mono ?_; rintro e w8 ⟨rfl, hb8⟩)
      | (go_at_call 12; refine (alive_any _).mono ?_; rintro e w9 ⟨rfl, hb9⟩))
    go_ret
    exact ⟨rfl, by repeat (first | exact Below.refl _ _ | refine below_alloc ?_ _ | refine below_then ?_ (by assumption))⟩
theorem TicketParts_walk (x : Int) (wx : (Lit.int .u64 x).wf = true) (w : World) :
    Calls Try.prog 4 #[.int .u64 x] w fun e w' => e = .returned (.bool true) ∧ Below w.heap.size w w' := by
  obtain ⟨h0, h1⟩ := u64_bd wx
  clear wx
  go_enter Try.func4, Try.ntmps4
  go_wp2_with (first
    | (go_at_call 9; refine (Make_any _ _ _).mono ?_; rintro e w1 ⟨rfl, hb1⟩)
    | (go_at_call 10; refine (RMake_any _ _ _).mono ?_; rintro e w2 ⟨rfl, hb2⟩)
    | (go_at_call 11; refine (Slot_any _ _ (by assumption) (by assumption)).mono ?_; rintro e w3 ⟨rfl, hb3⟩)
    | (go_at_call 13; refine (Gen_any _ _ (by assumption) (by assumption)).mono ?_; rintro e w4 ⟨rfl, hb4⟩)
    | (go_at_call 14; refine (RSlot_any _ _ (by assumption) (by assumption)).mono ?_; rintro e w5 ⟨rfl, hb5⟩)
    | (go_at_call 15; refine (RGen_any _ _ (by assumption) (by assumption)).mono ?_; rintro e w6 ⟨rfl, hb6⟩)
    | (go_at_call 16; refine (Of_any _ _ _ (by assumption) (by assumption)).mono ?_; rintro e w7 ⟨rfl, hb7⟩)
    | (go_at_call 17; refine (ROf_any _ _ _ (by assumption) (by assumption)).mono ?_; rintro e w8 ⟨rfl, hb8⟩)
    | (go_at_call 12; refine (alive_any _).mono ?_; rintro e w9 ⟨rfl, hb9⟩))
  go_ret
  exact ⟨rfl, by repeat (first | exact Below.refl _ _ | refine below_alloc ?_ _ | refine below_then ?_ (by assumption))⟩
theorem TicketOf_walk (x : Int) (wx : (Lit.int .u64 x).wf = true) (n : Int) (wn : (Lit.int .i64 n).wf = true) (w : World) :
    Calls Try.prog 5 #[.int .u64 x, .int .i64 n] w fun e w' => e = .returned (.bool true) ∧ Below w.heap.size w w' := by
  obtain ⟨h0, h1⟩ := u64_bd wx
  clear wx wn
  by_cases c : 1 ≤ x % 16 ∧ x % 16 ≤ 12 ∧ x % 16 - 1 < n ∧ x / 16 ≤ 1073741823
  · obtain ⟨e1, e2, e3⟩ := of_yes c
    obtain ⟨g1, g2⟩ := make_yes (s := ofS x n) (g := ofG x n) (by rw [e2, e3]; omega)
    have g3 : (makeW (ofS x n) (ofG x n) == x) = true := by rw [g2, e2, e3]; simp; omega
    have g4 : ofS x n < n := by rw [e2]; omega
    clear e2 e3 g2
    go_enter Try.func5, Try.ntmps5
    go_wp2_with (first
      | (go_at_call 9; refine (Make_any _ _ _).mono ?_; rintro e w1 ⟨rfl, hb1⟩)
      | (go_at_call 10; refine (RMake_any _ _ _).mono ?_; rintro e w2 ⟨rfl, hb2⟩)
      | (go_at_call 11; refine (Slot_any _ _ (by assumption) (by assumption)).mono ?_; rintro e w3 ⟨rfl, hb3⟩)
      | (go_at_call 13; refine (Gen_any _ _ (by assumption) (by assumption)).mono ?_; rintro e w4 ⟨rfl, hb4⟩)
      | (go_at_call 14; refine (RSlot_any _ _ (by assumption) (by assumption)).mono ?_; rintro e w5 ⟨rfl, hb5⟩)
      | (go_at_call 15; refine (RGen_any _ _ (by assumption) (by assumption)).mono ?_; rintro e w6 ⟨rfl, hb6⟩)
      | (go_at_call 16; refine (Of_any _ _ _ (by assumption) (by assumption)).mono ?_; rintro e w7 ⟨rfl, hb7⟩)
      | (go_at_call 17; refine (ROf_any _ _ _ (by assumption) (by assumption)).mono ?_; rintro e w8 ⟨rfl, hb8⟩)
      | (go_at_call 12; refine (alive_any _).mono ?_; rintro e w9 ⟨rfl, hb9⟩))
    go_ret
    exact ⟨rfl, by repeat (first | exact Below.refl _ _ | refine below_alloc ?_ _ | refine below_then ?_ (by assumption))⟩
  · obtain ⟨e1, e2, e3⟩ := of_no c
    clear c
    go_enter Try.func5, Try.ntmps5
    go_wp2_with (first
      | (go_at_call 9; refine (Make_any _ _ _).mono ?_; rintro e w1 ⟨rfl, hb1⟩)
      | (go_at_call 10; refine (RMake_any _ _ _).mono ?_; rintro e w2 ⟨rfl, hb2⟩)
      | (go_at_call 11; refine (Slot_any _ _ (by assumption) (by assumption)).mono ?_; rintro e w3 ⟨rfl, hb3⟩)
      | (go_at_call 13; refine (Gen_any _ _ (by assumption) (by assumption)).mono ?_; rintro e w4 ⟨rfl, hb4⟩)
      | (go_at_call 14; refine (RSlot_any _ _ (by assumption) (by assumption)).mono ?_; rintro e w5 ⟨rfl, hb5⟩)
      | (go_at_call 15; refine (RGen_any _ _ (by assumption) (by assumption)).mono ?_; rintro e w6 ⟨rfl, hb6⟩)
      | (go_at_call 16; refine (Of_any _ _ _ (by assumption) (by assumption)).mono ?_; rintro e w7 ⟨rfl, hb7⟩)
      | (go_at_call 17; refine (ROf_any _ _ _ (by assumption) (by assumption)).mono ?_; rintro e w8 ⟨rfl, hb8⟩)
      | (go_at_call 12; refine (alive_any _).mono ?_; rintro e w9 ⟨rfl, hb9⟩))
    go_ret
    exact ⟨rfl, by repeat (first | exact Below.refl _ _ | refine below_alloc ?_ _ | refine below_then ?_ (by assumption))⟩
theorem TicketNext_walk (s : Int) (ws : (Lit.int .i64 s).wf = true) (g : Int) (wg : (Lit.int .i64 g).wf = true) (w : World) :
    Calls Try.prog 8 #[.int .i64 s, .int .i64 g] w fun e w' => e = .returned (.bool true) ∧ Below w.heap.size w w' := by
  clear ws wg
  by_cases c : 0 ≤ s ∧ s ≤ 11 ∧ 0 ≤ g ∧ g ≤ 1073741823
  · by_cases c2 : g < 1073741823
    · obtain ⟨e1, e2, e3, e4, e5, e6⟩ := make_back (s := s) (g := g + 1) (by omega)
      obtain ⟨f1, f2⟩ := make_yes c
      obtain ⟨_, f3⟩ := make_yes (s := s) (g := g + 1) (by omega)
      have d1 : (makeW s (g + 1) != makeW s g) = true := by rw [f2, f3]; simp; omega
      have d2 : makeW s (g + 1) - makeW s g = 16 := by rw [f2, f3]; omega
      have b1 : 0 ≤ g := by omega
      clear f2 f3 c
      go_enter Try.func8, Try.ntmps8
      go_wp2_with (first
        | (go_at_call 9; refine (Make_any _ _ _).mono ?_; rintro e w1 ⟨rfl, hb1⟩)
        | (go_at_call 10; refine (RMake_any _ _ _).mono ?_; rintro e w2 ⟨rfl, hb2⟩)
        | (go_at_call 11; refine (Slot_any _ _ (by assumption) (by assumption)).mono ?_; rintro e w3 ⟨rfl, hb3⟩)
        | (go_at_call 13; refine (Gen_any _ _ (by assumption) (by assumption)).mono ?_; rintro e w4 ⟨rfl, hb4⟩)
        | (go_at_call 14; refine (RSlot_any _ _ (by assumption) (by assumption)).mono ?_; rintro e w5 ⟨rfl, hb5⟩)
        | (go_at_call 15; refine (RGen_any _ _ (by assumption) (by assumption)).mono ?_; rintro e w6 ⟨rfl, hb6⟩)
        | (go_at_call 16; refine (Of_any _ _ _ (by assumption) (by assumption)).mono ?_; rintro e w7 ⟨rfl, hb7⟩)
        | (go_at_call 17; refine (ROf_any _ _ _ (by assumption) (by assumption)).mono ?_; rintro e w8 ⟨rfl, hb8⟩)
        | (go_at_call 12; refine (alive_any _).mono ?_; rintro e w9 ⟨rfl, hb9⟩))
      go_ret
      exact ⟨rfl, by repeat (first | exact Below.refl _ _ | refine below_alloc ?_ _ | refine below_then ?_ (by assumption))⟩
    · obtain ⟨e1, e2⟩ := make_yes c
      have b1 : 1073741823 ≤ g := by omega
      clear e2 c c2
      go_enter Try.func8, Try.ntmps8
      go_wp2_with (first
        | (go_at_call 9; refine (Make_any _ _ _).mono ?_; rintro e w1 ⟨rfl, hb1⟩)
        | (go_at_call 10; refine (RMake_any _ _ _).mono ?_; rintro e w2 ⟨rfl, hb2⟩)
        | (go_at_call 11; refine (Slot_any _ _ (by assumption) (by assumption)).mono ?_; rintro e w3 ⟨rfl, hb3⟩)
        | (go_at_call 13; refine (Gen_any _ _ (by assumption) (by assumption)).mono ?_; rintro e w4 ⟨rfl, hb4⟩)
        | (go_at_call 14; refine (RSlot_any _ _ (by assumption) (by assumption)).mono ?_; rintro e w5 ⟨rfl, hb5⟩)
        | (go_at_call 15; refine (RGen_any _ _ (by assumption) (by assumption)).mono ?_; rintro e w6 ⟨rfl, hb6⟩)
        | (go_at_call 16; refine (Of_any _ _ _ (by assumption) (by assumption)).mono ?_; rintro e w7 ⟨rfl, hb7⟩)
        | (go_at_call 17; refine (ROf_any _ _ _ (by assumption) (by assumption)).mono ?_; rintro e w8 ⟨rfl, hb8⟩)
        | (go_at_call 12; refine (alive_any _).mono ?_; rintro e w9 ⟨rfl, hb9⟩))
      go_ret
      exact ⟨rfl, by repeat (first | exact Below.refl _ _ | refine below_alloc ?_ _ | refine below_then ?_ (by assumption))⟩
  · obtain ⟨e1, e2⟩ := make_no c
    clear c
    go_enter Try.func8, Try.ntmps8
    go_wp2_with (first
      | (go_at_call 9; refine (Make_any _ _ _).mono ?_; rintro e w1 ⟨rfl, hb1⟩)
      | (go_at_call 10; refine (RMake_any _ _ _).mono ?_; rintro e w2 ⟨rfl, hb2⟩)
      | (go_at_call 11; refine (Slot_any _ _ (by assumption) (by assumption)).mono ?_; rintro e w3 ⟨rfl, hb3⟩)
      | (go_at_call 13; refine (Gen_any _ _ (by assumption) (by assumption)).mono ?_; rintro e w4 ⟨rfl, hb4⟩)
      | (go_at_call 14; refine (RSlot_any _ _ (by assumption) (by assumption)).mono ?_; rintro e w5 ⟨rfl, hb5⟩)
      | (go_at_call 15; refine (RGen_any _ _ (by assumption) (by assumption)).mono ?_; rintro e w6 ⟨rfl, hb6⟩)
      | (go_at_call 16; refine (Of_any _ _ _ (by assumption) (by assumption)).mono ?_; rintro e w7 ⟨rfl, hb7⟩)
      | (go_at_call 17; refine (ROf_any _ _ _ (by assumption) (by assumption)).mono ?_; rintro e w8 ⟨rfl, hb8⟩)
      | (go_at_call 12; refine (alive_any _).mono ?_; rintro e w9 ⟨rfl, hb9⟩))
    go_ret
    exact ⟨rfl, by repeat (first | exact Below.refl _ _ | refine below_alloc ?_ _ | refine below_then ?_ (by assumption))⟩
end Go.Proofs.Ytiklggbegdpaaaa
