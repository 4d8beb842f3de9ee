/-
  The walks of the laws TicketApart and TicketGreater: their arguments are pairs, which lie in boxes.
-/
import Derived.Test.YtiklggbegdpaaaaC
namespace Go.Proofs.Ytiklggbegdpaaaa
open Go.RowKit
set_option linter.unusedVariables false
set_option linter.unusedSimpArgs false
attribute [local go_sem] max2_int min2_int max_two min_two
theorem TicketApart_walk (a b : Int) (wa : (Lit.int .i64 a).wf = true) (wb : (Lit.int .i64 b).wf = true) (c d : Int) (wc : (Lit.int .i64 c).wf = true) (wd : (Lit.int .i64 d).wf = true) (w : World) :
    Calls Try.prog 6 #[.agg #[.int .i64 a, .int .i64 b], .agg #[.int .i64 c, .int .i64 d]] w fun e w' => e = .returned (.bool true) ∧ Below w.heap.size w w' := by
  clear wa wb wc wd
  have hq := pair_eq
  have HB := Below.refl ((w.alloc (.cells #[.int .i64 a, .int .i64 b] 34)).alloc (.cells #[.int .i64 c, .int .i64 d] 34)).heap.size ((w.alloc (.cells #[.int .i64 a, .int .i64 b] 34)).alloc (.cells #[.int .i64 c, .int .i64 d] 34))
  cases hp : makeB a b with
  | false =>
    go_enter Try.func6, Try.ntmps6
    go_wp2_with (first
      | (go_at_call 9; refine (Make_any _ _ _).mono ?_; rintro e w1 ⟨rfl, hb1⟩; have HC := below_then HB hb1; clear HB; have HB := HC; clear HC; obtain ⟨hc1, hf1⟩ := bcell HB)
      | (go_at_call 12; refine (alive_any _).mono ?_; rintro e w2 ⟨rfl, hb2⟩; have HC := below_then HB hb2; clear HB; have HB := HC; clear HC; obtain ⟨hc2, hf2⟩ := bcell HB))
    go_ret
    exact ⟨rfl, below_then (below_alloc (below_alloc (Below.refl _ _) _) _) HB⟩
  | true =>
    cases hp' : makeB c d with
    | false =>
      go_enter Try.func6, Try.ntmps6
      go_wp2_with (first
        | (go_at_call 9; refine (Make_any _ _ _).mono ?_; rintro e w1 ⟨rfl, hb1⟩; have HC := below_then HB hb1; clear HB; have HB := HC; clear HC; obtain ⟨hc1, hf1⟩ := bcell HB)
        | (go_at_call 12; refine (alive_any _).mono ?_; rintro e w2 ⟨rfl, hb2⟩; have HC := below_then HB hb2; clear HB; have HB := HC; clear HC; obtain ⟨hc2, hf2⟩ := bcell HB))
      go_ret
      exact ⟨rfl, below_then (below_alloc (below_alloc (Below.refl _ _) _) _) HB⟩
    | true =>
      have g : 0 ≤ a ∧ a ≤ 11 ∧ 0 ≤ b ∧ b ≤ 1073741823 := by unfold makeB at hp; exact of_decide_eq_true hp
      have g' : 0 ≤ c ∧ c ≤ 11 ∧ 0 ≤ d ∧ d ≤ 1073741823 := by unfold makeB at hp'; exact of_decide_eq_true hp'
      have hfin : (makeW a b == makeW c d) = (a == c && b == d) := by
        rw [(make_yes g).2, (make_yes g').2, Bool.eq_iff_iff]; simp; omega
      clear g g'
      go_enter Try.func6, Try.ntmps6
      go_wp2_with (first
        | (go_at_call 9; refine (Make_any _ _ _).mono ?_; rintro e w1 ⟨rfl, hb1⟩; have HC := below_then HB hb1; clear HB; have HB := HC; clear HC; obtain ⟨hc1, hf1⟩ := bcell HB)
        | (go_at_call 12; refine (alive_any _).mono ?_; rintro e w2 ⟨rfl, hb2⟩; have HC := below_then HB hb2; clear HB; have HB := HC; clear HC; obtain ⟨hc2, hf2⟩ := bcell HB))
      go_ret
      exact ⟨rfl, below_then (below_alloc (below_alloc (Below.refl _ _) _) _) HB⟩
theorem TicketGreater_walk (x : Int) (wx : (Lit.int .u64 x).wf = true) (a b : Int) (wa : (Lit.int .i64 a).wf = true) (wb : (Lit.int .i64 b).wf = true) (w : World) :
    Calls Try.prog 7 #[.int .u64 x, .agg #[.int .i64 a, .int .i64 b]] w fun e w' => e = .returned (.bool true) ∧ Below w.heap.size w w' := by
  obtain ⟨h0, h1⟩ := u64_bd wx
  clear wx wa wb
  have main : ∀ few many : Int, few ≤ many → (if b < a then b else a) = few → (if a < b then b else a) = many →
    Calls Try.prog 7 #[.int .u64 x, .agg #[.int .i64 a, .int .i64 b]] w fun e w' => e = .returned (.bool true) ∧ Below w.heap.size w w' := by
    intro few many hl e1 e2
    cases c1 : ofB x few with
    | true =>
      have k : 1 ≤ x % 16 ∧ x % 16 ≤ 12 ∧ x % 16 - 1 < few ∧ x / 16 ≤ 1073741823 := by
        unfold ofB slotB at c1; simp at c1; omega
      obtain ⟨_, f2, f3⟩ := of_yes k
      obtain ⟨g1, g2, g3⟩ := of_yes (h := x) (n := many) (by omega)
      have k1 : (ofS x few == ofS x many) = true := by rw [f2, g2]; simp
      have k2 : (ofG x few == ofG x many) = true := by rw [f3, g3]; simp
      have k3 : ofS x many < few := by rw [g2]; omega
      clear f2 f3 g2 g3 k hl
      go_enter Try.func7, Try.ntmps7
      go_wp2_with fail
      go_quiet (fail)
      go_wp2_with (first
        | (go_at_call 16; refine (Of_any _ _ _ (by assumption) (by assumption)).mono ?_; rintro e w1 ⟨rfl, hb1⟩)
        | (go_at_call 12; refine (alive_any _).mono ?_; rintro e w2 ⟨rfl, hb2⟩))
      go_ret
      exact ⟨rfl, by repeat (first | exact Below.refl _ _ | refine below_drewN ?_ _ | refine below_alloc ?_ _ | refine below_then ?_ (by assumption))⟩
    | false =>
      cases c2 : ofB x many with
      | true =>
        have k : 1 ≤ x % 16 ∧ x % 16 ≤ 12 ∧ x % 16 - 1 < many ∧ x / 16 ≤ 1073741823 := by
          unfold ofB slotB at c2; simp at c2; omega
        have k3 : decide (ofS x many < few) = false := decide_eq_false fun h => by
          rw [(of_yes k).2.1] at h
          have := (of_yes (h := x) (n := few) (by omega)).1
          rw [this] at c1
          cases c1
        clear k hl
        go_enter Try.func7, Try.ntmps7
        go_wp2_with fail
        go_quiet (fail)
        go_wp2_with (first
          | (go_at_call 16; refine (Of_any _ _ _ (by assumption) (by assumption)).mono ?_; rintro e w1 ⟨rfl, hb1⟩)
          | (go_at_call 12; refine (alive_any _).mono ?_; rintro e w2 ⟨rfl, hb2⟩))
        go_ret
        exact ⟨rfl, by repeat (first | exact Below.refl _ _ | refine below_drewN ?_ _ | refine below_alloc ?_ _ | refine below_then ?_ (by assumption))⟩
      | false =>
        clear hl
        go_enter Try.func7, Try.ntmps7
        go_wp2_with fail
        go_quiet (fail)
        go_wp2_with (first
          | (go_at_call 16; refine (Of_any _ _ _ (by assumption) (by assumption)).mono ?_; rintro e w1 ⟨rfl, hb1⟩)
          | (go_at_call 12; refine (alive_any _).mono ?_; rintro e w2 ⟨rfl, hb2⟩))
        go_ret
        exact ⟨rfl, by repeat (first | exact Below.refl _ _ | refine below_drewN ?_ _ | refine below_alloc ?_ _ | refine below_then ?_ (by assumption))⟩
  by_cases h : b < a
  · exact main b a (by omega) (if_pos h) (if_neg (by omega))
  · by_cases h' : a < b
    · exact main a b (by omega) (if_neg h) (if_pos h')
    · exact main a a (by omega) (if_neg h) (if_neg h')
end Go.Proofs.Ytiklggbegdpaaaa
