/-
  The walks of the laws TallyPast, TallyNext and TallyApart.
-/
import Derived.Test.YtjimdjmohpfjlaaB
namespace Go.Proofs.Ytjimdjmohpfjlaa
open Go.RowKit
set_option linter.unusedVariables false
set_option linter.unusedSimpArgs false
theorem field_seq (a b : Int) (w : World) : (Instr.field 27 (.agg #[.int .u64 a, .int .i64 b]) 0).run Try.prog w = .ok (.int .u64 a) w := by kernel_rfl
theorem TallyPast_walk (n : Int) (wn : (Lit.int .u64 n).wf = true) (s : Int) (ws : (Lit.int .u64 s).wf = true) (l : Int) (wl : (Lit.int .u64 l).wf = true) (w : World) :
    Calls Try.prog 7 #[.int .u64 n, .int .u64 s, .int .u64 l] w fun e w' => e = .returned (.bool true) ∧ Below w.heap.size w w' := by
  have hn := (u64_bd wn).1
  clear wn ws wl
  cases hp : pastB n s with
  | false =>
    go_enter Try.func7, Try.ntmps7
    go_wp2_with (first
      | (go_at_call 18; refine (Past_any _ _ _ hn).mono ?_; rintro e w1 ⟨rfl, hb1⟩)
      | (go_at_call 19; refine (RPast_any _ _ _ hn).mono ?_; rintro e w2 ⟨rfl, hb2⟩)
      | (go_at_call 11; refine (alive_any _).mono ?_; rintro e w3 ⟨rfl, hb3⟩))
    go_ret
    exact ⟨rfl, by repeat (first | exact Below.refl _ _ | refine below_alloc ?_ _ | refine below_then ?_ (by assumption))⟩
  | true =>
    by_cases h : l < s
    · go_enter Try.func7, Try.ntmps7
      go_wp2_with (first
        | (go_at_call 18; refine (Past_any _ _ _ hn).mono ?_; rintro e w1 ⟨rfl, hb1⟩)
        | (go_at_call 19; refine (RPast_any _ _ _ hn).mono ?_; rintro e w2 ⟨rfl, hb2⟩)
        | (go_at_call 11; refine (alive_any _).mono ?_; rintro e w3 ⟨rfl, hb3⟩))
      go_ret
      exact ⟨rfl, by repeat (first | exact Below.refl _ _ | refine below_alloc ?_ _ | refine below_then ?_ (by assumption))⟩
    · have hl : pastB n l = true := by unfold pastB at hp ⊢; simp at hp ⊢; omega
      go_enter Try.func7, Try.ntmps7
      go_wp2_with (first
        | (go_at_call 18; refine (Past_any _ _ _ hn).mono ?_; rintro e w1 ⟨rfl, hb1⟩)
        | (go_at_call 19; refine (RPast_any _ _ _ hn).mono ?_; rintro e w2 ⟨rfl, hb2⟩)
        | (go_at_call 11; refine (alive_any _).mono ?_; rintro e w3 ⟨rfl, hb3⟩))
      go_ret
      exact ⟨rfl, by repeat (first | exact Below.refl _ _ | refine below_alloc ?_ _ | refine below_then ?_ (by assumption))⟩
theorem TallyNext_walk (x : Int) (wx : (Lit.int .u64 x).wf = true) (p : Int) (wp : (Lit.int .i64 p).wf = true) (w : World) :
    Calls Try.prog 5 #[.int .u64 x, .int .i64 p] w fun e w' => e = .returned (.bool true) ∧ Below w.heap.size w w' := by
  obtain ⟨h0, h1⟩ := u64_bd wx
  clear wx wp
  cases hp : nextB x p with
  | false =>
    go_enter Try.func5, Try.ntmps5
    go_wp2_with (first
      | (go_at_call 16; refine (Next_any _ _ _ h0 h1).mono ?_; rintro e w1 ⟨rfl, hb1⟩)
      | (go_at_call 17; refine (RNext_any _ _ _ h0 h1).mono ?_; rintro e w2 ⟨rfl, hb2⟩)
      | (go_at_call 11; refine (alive_any _).mono ?_; rintro e w3 ⟨rfl, hb3⟩))
    go_ret
    exact ⟨rfl, by repeat (first | exact Below.refl _ _ | refine below_alloc ?_ _ | refine below_then ?_ (by assumption))⟩
  | true =>
    have hq : x % 16 = 0 ∧ 0 ≤ p ∧ p ≤ 11 ∧ x / 16 < 1099511627775 := by unfold nextB at hp; exact of_decide_eq_true hp
    have e1 := (next_yes hq).2
    have a1 : 0 ≤ nextW x p := by rw [e1]; omega
    have a2 : nextW x p < 18446744073709551616 := by rw [e1]; omega
    have a3 : nextW x p / 16 = x / 16 + 1 := by rw [e1]; omega
    have a4 : nextW x p % 16 - 1 = p := by rw [e1]; omega
    clear e1 hq
    have hf := field_seq
    go_enter Try.func5, Try.ntmps5
    go_wp2_with (first
      | (go_at_call 16; refine (Next_any _ _ _ h0 h1).mono ?_; rintro e w1 ⟨rfl, hb1⟩)
      | (go_at_call 17; refine (RNext_any _ _ _ h0 h1).mono ?_; rintro e w2 ⟨rfl, hb2⟩)
      | (go_at_call 12; refine (Unpack_any _ _ (by assumption) (by assumption)).mono ?_; rintro e w4 ⟨rfl, hb4⟩)
      | (go_at_call 11; refine (alive_any _).mono ?_; rintro e w3 ⟨rfl, hb3⟩))
    go_ret
    exact ⟨rfl, by repeat (first | exact Below.refl _ _ | refine below_alloc ?_ _ | refine below_then ?_ (by assumption))⟩
/-- Any tally. -/
theorem Pack_any (s p : Int) (w : World) (h0 : 0 ≤ s) :
    Calls Try.prog 9 #[.agg #[.int .u64 s, .int .i64 p]] w fun e w' => e = .returned (.tuple #[.int .u64 (packW s p), .bool (packB s p)]) ∧ Below w.heap.size w w' := by
  by_cases h : s ≤ 1099511627775 ∧ -1 ≤ p ∧ p ≤ 11
  · rw [show packW s p = 16 * s + (p + 1) by unfold packW; rw [if_pos h], show packB s p = true by unfold packB; exact decide_eq_true h]
    exact Pack_yes s p w h0 h.1 h.2.1 h.2.2
  · rw [show packW s p = 0 by unfold packW; rw [if_neg h], show packB s p = false by unfold packB; exact decide_eq_false h]
    exact Pack_no s p w h0 h
theorem RPack_any (s p : Int) (w : World) (h0 : 0 ≤ s) :
    Calls Try.prog 10 #[.agg #[.int .u64 s, .int .i64 p]] w fun e w' => e = .returned (.tuple #[.int .u64 (packW s p), .bool (packB s p)]) ∧ Below w.heap.size w w' := by
  by_cases h : s ≤ 1099511627775 ∧ -1 ≤ p ∧ p ≤ 11
  · rw [show packW s p = 16 * s + (p + 1) by unfold packW; rw [if_pos h], show packB s p = true by unfold packB; exact decide_eq_true h]
    exact RPack_yes s p w h0 h.1 h.2.1 h.2.2
  · rw [show packW s p = 0 by unfold packW; rw [if_neg h], show packB s p = false by unfold packB; exact decide_eq_false h]
    exact RPack_no s p w h0 h
theorem TallyApart_walk (s p : Int) (ws : (Lit.int .u64 s).wf = true) (wp : (Lit.int .i64 p).wf = true) (s' p' : Int) (ws' : (Lit.int .u64 s').wf = true) (wp' : (Lit.int .i64 p').wf = true) (w : World) :
    Calls Try.prog 8 #[.agg #[.int .u64 s, .int .i64 p], .agg #[.int .u64 s', .int .i64 p']] w fun e w' => e = .returned (.bool true) ∧ Below w.heap.size w w' := by
  obtain ⟨h0, _⟩ := u64_bd ws
  obtain ⟨h0', _⟩ := u64_bd ws'
  clear ws wp ws' wp'
  have HB := Below.refl ((w.alloc (.cells #[.int .u64 s, .int .i64 p] 24)).alloc (.cells #[.int .u64 s', .int .i64 p'] 24)).heap.size ((w.alloc (.cells #[.int .u64 s, .int .i64 p] 24)).alloc (.cells #[.int .u64 s', .int .i64 p'] 24))
  cases hp : packB s p with
  | false =>
    go_enter Try.func8, Try.ntmps8
    go_wp2_with (first
      | (go_at_call 9; refine (Pack_any _ _ _ (by assumption)).mono ?_; rintro e w1 ⟨rfl, hb1⟩; have HC := below_then HB hb1; clear HB; have HB := HC; clear HC; obtain ⟨hc1, hf1⟩ := bcell HB)
      | (go_at_call 11; refine (alive_any _).mono ?_; rintro e w3 ⟨rfl, hb3⟩; have HC := below_then HB hb3; clear HB; have HB := HC; clear HC; obtain ⟨hc3, hf3⟩ := bcell HB))
    go_ret
    exact ⟨rfl, below_then (below_alloc (below_alloc (Below.refl _ _) _) _) HB⟩
  | true =>
    cases hp' : packB s' p' with
    | false =>
      go_enter Try.func8, Try.ntmps8
      go_wp2_with (first
        | (go_at_call 9; refine (Pack_any _ _ _ (by assumption)).mono ?_; rintro e w1 ⟨rfl, hb1⟩; have HC := below_then HB hb1; clear HB; have HB := HC; clear HC; obtain ⟨hc1, hf1⟩ := bcell HB)
        | (go_at_call 11; refine (alive_any _).mono ?_; rintro e w3 ⟨rfl, hb3⟩; have HC := below_then HB hb3; clear HB; have HB := HC; clear HC; obtain ⟨hc3, hf3⟩ := bcell HB))
      go_ret
      exact ⟨rfl, below_then (below_alloc (below_alloc (Below.refl _ _) _) _) HB⟩
    | true =>
      have g : s ≤ 1099511627775 ∧ -1 ≤ p ∧ p ≤ 11 := by unfold packB at hp; exact of_decide_eq_true hp
      have g' : s' ≤ 1099511627775 ∧ -1 ≤ p' ∧ p' ≤ 11 := by unfold packB at hp'; exact of_decide_eq_true hp'
      have e1 : packW s p = 16 * s + (p + 1) := by unfold packW; rw [if_pos g]
      have e2 : packW s' p' = 16 * s' + (p' + 1) := by unfold packW; rw [if_pos g']
      have hfin : (packW s p == packW s' p') = (s == s' && p == p') := by
        rw [e1, e2, Bool.eq_iff_iff]; simp; omega
      clear e1 e2 g g'
      by_cases c1 : s = s'
      · by_cases c2 : p = p'
        · subst c1 c2
          clear hfin
          go_enter Try.func8, Try.ntmps8
          go_wp2_with (first
            | (go_at_call 9; refine (Pack_any _ _ _ (by assumption)).mono ?_; rintro e w1 ⟨rfl, hb1⟩; have HC := below_then HB hb1; clear HB; have HB := HC; clear HC; obtain ⟨hc1, hf1⟩ := bcell HB)
            | (go_at_call 11; refine (alive_any _).mono ?_; rintro e w3 ⟨rfl, hb3⟩; have HC := below_then HB hb3; clear HB; have HB := HC; clear HC; obtain ⟨hc3, hf3⟩ := bcell HB))
          go_ret
          exact ⟨rfl, below_then (below_alloc (below_alloc (Below.refl _ _) _) _) HB⟩
        · subst c1
          have hn : (p == p') = false := by simpa using c2
          have hfin2 : (packW s p == packW s p') = false := by rw [hfin, hn]; simp
          clear hfin
          go_enter Try.func8, Try.ntmps8
          go_wp2_with (first
            | (go_at_call 9; refine (Pack_any _ _ _ (by assumption)).mono ?_; rintro e w1 ⟨rfl, hb1⟩; have HC := below_then HB hb1; clear HB; have HB := HC; clear HC; obtain ⟨hc1, hf1⟩ := bcell HB)
            | (go_at_call 11; refine (alive_any _).mono ?_; rintro e w3 ⟨rfl, hb3⟩; have HC := below_then HB hb3; clear HB; have HB := HC; clear HC; obtain ⟨hc3, hf3⟩ := bcell HB))
          go_ret
          exact ⟨rfl, below_then (below_alloc (below_alloc (Below.refl _ _) _) _) HB⟩
      · have hn : (s == s') = false := by simpa using c1
        have hfin2 : (packW s p == packW s' p') = false := by rw [hfin, hn]; simp
        clear hfin
        go_enter Try.func8, Try.ntmps8
        go_wp2_with (first
          | (go_at_call 9; refine (Pack_any _ _ _ (by assumption)).mono ?_; rintro e w1 ⟨rfl, hb1⟩; have HC := below_then HB hb1; clear HB; have HB := HC; clear HC; obtain ⟨hc1, hf1⟩ := bcell HB)
          | (go_at_call 11; refine (alive_any _).mono ?_; rintro e w3 ⟨rfl, hb3⟩; have HC := below_then HB hb3; clear HB; have HB := HC; clear HC; obtain ⟨hc3, hf3⟩ := bcell HB))
        go_ret
        exact ⟨rfl, below_then (below_alloc (below_alloc (Below.refl _ _) _) _) HB⟩
end Go.Proofs.Ytjimdjmohpfjlaa
