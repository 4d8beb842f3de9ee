/-
  The walks of the laws StatusSides and StatusBack.
-/
import Derived.Test.YtggphjmlnbkngaaJ
namespace Go.Proofs.Ytggphjmlnbkngaa
open Go.RowKit
set_option linter.unusedVariables false
set_option linter.unusedSimpArgs false
set_option maxHeartbeats 1000000 in
theorem StatusSides_walk (x : Int) (wx : (Lit.int .u64 x).wf = true) (k : Int) (wk : (Lit.int .i64 k).wf = true) (s : Int) (ws : (Lit.int .i64 s).wf = true) (w : World) :
    Calls Try.prog 6 #[.int .u64 x, .int .i64 k, .int .i64 s] w fun e w' => e = .returned (.bool true) ∧ Below w.heap.size w w' := by
  obtain ⟨h0, h1⟩ := u64_bd wx
  obtain ⟨x, rfl⟩ := Int.eq_ofNat_of_zero_le h0
  have hx : x < 18446744073709551616 := by omega
  clear wx wk ws h0 h1
  have hw := withW_lt k s hx
  by_cases h : 0 ≤ k ∧ k ≤ 1 ∧ 0 ≤ s ∧ s < 12
  · have e2 := has_with x h
    have e3 := any_with x h
    obtain ⟨a1, a2, a3, a4⟩ := h
    go_enter Try.func6, Try.ntmps6
    go_wp2_with (first
      | (go_at_call 17; refine (With_any _ _ _ _ (by assumption)).mono ?_; rintro e w1 ⟨rfl, hb1⟩)
      | (go_at_call 18; refine (Has_any _ _ _ _ (by assumption)).mono ?_; rintro e w2 ⟨rfl, hb2⟩)
      | (go_at_call 19; refine (RHas_any _ _ _ _ (by assumption)).mono ?_; rintro e w3 ⟨rfl, hb3⟩)
      | (go_at_call 20; refine (RWith_any _ _ _ _ (by assumption)).mono ?_; rintro e w4 ⟨rfl, hb4⟩)
      | (go_at_call 21; refine (Any_any _ _ _ (by assumption)).mono ?_; rintro e w5 ⟨rfl, hb5⟩)
      | (go_at_call 22; refine (RAny_any _ _ _ (by assumption)).mono ?_; rintro e w6 ⟨rfl, hb6⟩)
      | (go_at_call 23; refine (Drop_any _ _ _ _ (by assumption)).mono ?_; rintro e w7 ⟨rfl, hb7⟩)
      | (go_at_call 24; refine (RDrop_any _ _ _ _ (by assumption)).mono ?_; rintro e w8 ⟨rfl, hb8⟩)
      | (go_at_call 12; refine (alive_any _).mono ?_; rintro e w9 ⟨rfl, hb9⟩))
    go_ret
    exact ⟨rfl, by repeat (first | exact Below.refl _ _ | refine below_alloc ?_ _ | refine below_then ?_ (by assumption))⟩
  · have e2 := has_none (withW x k s) h
    by_cases c1 : 0 ≤ k
    · by_cases c2 : k ≤ 1
      · by_cases c3 : 0 ≤ s
        · have c4 : decide (s < 12) = false := decide_eq_false (by omega)
          clear h
          go_enter Try.func6, Try.ntmps6
          go_wp2_with (first
            | (go_at_call 17; refine (With_any _ _ _ _ (by assumption)).mono ?_; rintro e w1 ⟨rfl, hb1⟩)
            | (go_at_call 18; refine (Has_any _ _ _ _ (by assumption)).mono ?_; rintro e w2 ⟨rfl, hb2⟩)
            | (go_at_call 19; refine (RHas_any _ _ _ _ (by assumption)).mono ?_; rintro e w3 ⟨rfl, hb3⟩)
            | (go_at_call 20; refine (RWith_any _ _ _ _ (by assumption)).mono ?_; rintro e w4 ⟨rfl, hb4⟩)
            | (go_at_call 21; refine (Any_any _ _ _ (by assumption)).mono ?_; rintro e w5 ⟨rfl, hb5⟩)
            | (go_at_call 22; refine (RAny_any _ _ _ (by assumption)).mono ?_; rintro e w6 ⟨rfl, hb6⟩)
            | (go_at_call 23; refine (Drop_any _ _ _ _ (by assumption)).mono ?_; rintro e w7 ⟨rfl, hb7⟩)
            | (go_at_call 24; refine (RDrop_any _ _ _ _ (by assumption)).mono ?_; rintro e w8 ⟨rfl, hb8⟩)
            | (go_at_call 12; refine (alive_any _).mono ?_; rintro e w9 ⟨rfl, hb9⟩))
          go_ret
          exact ⟨rfl, by repeat (first | exact Below.refl _ _ | refine below_alloc ?_ _ | refine below_then ?_ (by assumption))⟩
        · clear h
          go_enter Try.func6, Try.ntmps6
          go_wp2_with (first
            | (go_at_call 17; refine (With_any _ _ _ _ (by assumption)).mono ?_; rintro e w1 ⟨rfl, hb1⟩)
            | (go_at_call 18; refine (Has_any _ _ _ _ (by assumption)).mono ?_; rintro e w2 ⟨rfl, hb2⟩)
            | (go_at_call 19; refine (RHas_any _ _ _ _ (by assumption)).mono ?_; rintro e w3 ⟨rfl, hb3⟩)
            | (go_at_call 20; refine (RWith_any _ _ _ _ (by assumption)).mono ?_; rintro e w4 ⟨rfl, hb4⟩)
            | (go_at_call 21; refine (Any_any _ _ _ (by assumption)).mono ?_; rintro e w5 ⟨rfl, hb5⟩)
            | (go_at_call 22; refine (RAny_any _ _ _ (by assumption)).mono ?_; rintro e w6 ⟨rfl, hb6⟩)
            | (go_at_call 23; refine (Drop_any _ _ _ _ (by assumption)).mono ?_; rintro e w7 ⟨rfl, hb7⟩)
            | (go_at_call 24; refine (RDrop_any _ _ _ _ (by assumption)).mono ?_; rintro e w8 ⟨rfl, hb8⟩)
            | (go_at_call 12; refine (alive_any _).mono ?_; rintro e w9 ⟨rfl, hb9⟩))
          go_ret
          exact ⟨rfl, by repeat (first | exact Below.refl _ _ | refine below_alloc ?_ _ | refine below_then ?_ (by assumption))⟩
      · clear h
        go_enter Try.func6, Try.ntmps6
        go_wp2_with (first
          | (go_at_call 17; refine (With_any _ _ _ _ (by assumption)).mono ?_; rintro e w1 ⟨rfl, hb1⟩)
          | (go_at_call 18; refine (Has_any _ _ _ _ (by assumption)).mono ?_; rintro e w2 ⟨rfl, hb2⟩)
          | (go_at_call 19; refine (RHas_any _ _ _ _ (by assumption)).mono ?_; rintro e w3 ⟨rfl, hb3⟩)
          | (go_at_call 20; refine (RWith_any _ _ _ _ (by assumption)).mono ?_; rintro e w4 ⟨rfl, hb4⟩)
          | (go_at_call 21; refine (Any_any _ _ _ (by assumption)).mono ?_; rintro e w5 ⟨rfl, hb5⟩)
          | (go_at_call 22; refine (RAny_any _ _ _ (by assumption)).mono ?_; rintro e w6 ⟨rfl, hb6⟩)
          | (go_at_call 23; refine (Drop_any _ _ _ _ (by assumption)).mono ?_; rintro e w7 ⟨rfl, hb7⟩)
          | (go_at_call 24; refine (RDrop_any _ _ _ _ (by assumption)).mono ?_; rintro e w8 ⟨rfl, hb8⟩)
          | (go_at_call 12; refine (alive_any _).mono ?_; rintro e w9 ⟨rfl, hb9⟩))
        go_ret
        exact ⟨rfl, by repeat (first | exact Below.refl _ _ | refine below_alloc ?_ _ | refine below_then ?_ (by assumption))⟩
    · clear h
      go_enter Try.func6, Try.ntmps6
      go_wp2_with (first
        | (go_at_call 17; refine (With_any _ _ _ _ (by assumption)).mono ?_; rintro e w1 ⟨rfl, hb1⟩)
        | (go_at_call 18; refine (Has_any _ _ _ _ (by assumption)).mono ?_; rintro e w2 ⟨rfl, hb2⟩)
        | (go_at_call 19; refine (RHas_any _ _ _ _ (by assumption)).mono ?_; rintro e w3 ⟨rfl, hb3⟩)
        | (go_at_call 20; refine (RWith_any _ _ _ _ (by assumption)).mono ?_; rintro e w4 ⟨rfl, hb4⟩)
        | (go_at_call 21; refine (Any_any _ _ _ (by assumption)).mono ?_; rintro e w5 ⟨rfl, hb5⟩)
        | (go_at_call 22; refine (RAny_any _ _ _ (by assumption)).mono ?_; rintro e w6 ⟨rfl, hb6⟩)
        | (go_at_call 23; refine (Drop_any _ _ _ _ (by assumption)).mono ?_; rintro e w7 ⟨rfl, hb7⟩)
        | (go_at_call 24; refine (RDrop_any _ _ _ _ (by assumption)).mono ?_; rintro e w8 ⟨rfl, hb8⟩)
        | (go_at_call 12; refine (alive_any _).mono ?_; rintro e w9 ⟨rfl, hb9⟩))
      go_ret
      exact ⟨rfl, by repeat (first | exact Below.refl _ _ | refine below_alloc ?_ _ | refine below_then ?_ (by assumption))⟩
theorem Drop_q (x : Nat) (s : Int) (g : Bool) (r : Nat) (w : World) (hx : x < 18446744073709551616) (hr : Hid (dropW x s g = r)) : Calls Try.prog 23 #[.int .u64 (x : Int), .int .i64 s, .bool g] w fun e w' => e = .returned (.int .u64 (r : Int)) ∧ Below w.heap.size w w' := by
  have h : dropW x s g = r := hr.out
  rw [← h]
  exact Drop_any x s g w hx
theorem With_q (x : Nat) (k s : Int) (r : Nat) (w : World) (hx : x < 18446744073709551616) (hr : Hid (withW x k s = r)) : Calls Try.prog 17 #[.int .u64 (x : Int), .int .i64 k, .int .i64 s] w fun e w' => e = .returned (.int .u64 (r : Int)) ∧ Below w.heap.size w w' := by
  have h : withW x k s = r := hr.out
  rw [← h]
  exact With_any x k s w hx
set_option maxHeartbeats 1000000 in
theorem StatusBack_walk (x : Int) (wx : (Lit.int .u64 x).wf = true) (k : Int) (wk : (Lit.int .i64 k).wf = true) (s : Int) (ws : (Lit.int .i64 s).wf = true) (w : World) :
    Calls Try.prog 8 #[.int .u64 x, .int .i64 k, .int .i64 s] w fun e w' => e = .returned (.bool true) ∧ Below w.heap.size w w' := by
  obtain ⟨h0, h1⟩ := u64_bd wx
  obtain ⟨x, rfl⟩ := Int.eq_ofNat_of_zero_le h0
  have hx : x < 18446744073709551616 := by omega
  clear wx wk ws h0 h1
  have hw := withW_lt k s hx
  have hd := dropW_lt s true hw
  have hdd := drop_drop (withW x k s) s true true
  cases e1 : hasW x 0 s with
  | true =>
    go_enter Try.func8, Try.ntmps8
    go_wp2_with (first
      | (go_at_call 17; refine (With_any _ _ _ _ (by assumption)).mono ?_; rintro e w1 ⟨rfl, hb1⟩)
      | (go_at_call 18; refine (Has_any _ _ _ _ (by assumption)).mono ?_; rintro e w2 ⟨rfl, hb2⟩)
      | (go_at_call 19; refine (RHas_any _ _ _ _ (by assumption)).mono ?_; rintro e w3 ⟨rfl, hb3⟩)
      | (go_at_call 20; refine (RWith_any _ _ _ _ (by assumption)).mono ?_; rintro e w4 ⟨rfl, hb4⟩)
      | (go_at_call 21; refine (Any_any _ _ _ (by assumption)).mono ?_; rintro e w5 ⟨rfl, hb5⟩)
      | (go_at_call 22; refine (RAny_any _ _ _ (by assumption)).mono ?_; rintro e w6 ⟨rfl, hb6⟩)
      | (go_at_call 23; refine (Drop_any _ _ _ _ (by assumption)).mono ?_; rintro e w7 ⟨rfl, hb7⟩)
      | (go_at_call 24; refine (RDrop_any _ _ _ _ (by assumption)).mono ?_; rintro e w8 ⟨rfl, hb8⟩)
      | (go_at_call 12; refine (alive_any _).mono ?_; rintro e w9 ⟨rfl, hb9⟩))
    go_ret
    exact ⟨rfl, by repeat (first | exact Below.refl _ _ | refine below_alloc ?_ _ | refine below_then ?_ (by assumption))⟩
  | false =>
    cases e2 : hasW x 1 s with
    | true =>
      go_enter Try.func8, Try.ntmps8
      go_wp2_with (first
        | (go_at_call 17; refine (With_any _ _ _ _ (by assumption)).mono ?_; rintro e w1 ⟨rfl, hb1⟩)
        | (go_at_call 18; refine (Has_any _ _ _ _ (by assumption)).mono ?_; rintro e w2 ⟨rfl, hb2⟩)
        | (go_at_call 19; refine (RHas_any _ _ _ _ (by assumption)).mono ?_; rintro e w3 ⟨rfl, hb3⟩)
        | (go_at_call 20; refine (RWith_any _ _ _ _ (by assumption)).mono ?_; rintro e w4 ⟨rfl, hb4⟩)
        | (go_at_call 21; refine (Any_any _ _ _ (by assumption)).mono ?_; rintro e w5 ⟨rfl, hb5⟩)
        | (go_at_call 22; refine (RAny_any _ _ _ (by assumption)).mono ?_; rintro e w6 ⟨rfl, hb6⟩)
        | (go_at_call 23; refine (Drop_any _ _ _ _ (by assumption)).mono ?_; rintro e w7 ⟨rfl, hb7⟩)
        | (go_at_call 24; refine (RDrop_any _ _ _ _ (by assumption)).mono ?_; rintro e w8 ⟨rfl, hb8⟩)
        | (go_at_call 12; refine (alive_any _).mono ?_; rintro e w9 ⟨rfl, hb9⟩))
      go_ret
      exact ⟨rfl, by repeat (first | exact Below.refl _ _ | refine below_alloc ?_ _ | refine below_then ?_ (by assumption))⟩
    | false =>
      have e3 := drop_with k e1 e2
      by_cases h : 0 ≤ k ∧ k ≤ 1 ∧ 0 ≤ s ∧ s < 12
      · have e0 : hasW x k s = false := by
          rcases (by omega : k = 0 ∨ k = 1) with rfl | rfl
          · exact e1
          · exact e2
        have e4 := with_ne h e0
        have e5 : ((withW x k s : Nat) : Int) ≠ (x : Int) := by omega
        have e6 : (((withW x k s : Nat) : Int) == (x : Int)) = false := by simpa using e5
        by_cases c : dropW (withW x k s) s true = x
        · rw [c] at hdd hd
          have H1 := Hid.mk' c
          have H2 := Hid.mk' (drop_same true e1 e2)
          have H3 := Hid.mk' e3
          have G1 := Hid.mk' e1
          have G2 := Hid.mk' e2
          generalize hX : withW x k s = X at *
          have HX := Hid.mk' hX
          clear h e4 e5 e3 c e0 e1 e2 hX hdd
          go_enter Try.func8, Try.ntmps8
          go_wp2_with fail
          refine (With_q x k s X _ hx HX).mono ?_
          rintro e w1 ⟨rfl, hb1⟩
          go_wp2_with fail
          refine (Drop_q X s true x _ (by assumption) H1).mono ?_
          rintro e w2 ⟨rfl, hb2⟩
          go_wp2_with fail
          refine (Drop_q x s true x _ hx H2).mono ?_
          rintro e w3 ⟨rfl, hb3⟩
          go_wp2_with fail
          refine (Has_any x 0 s _ hx).mono ?_
          rintro e w4 ⟨rfl, hb4⟩
          rw [G1.out]
          go_wp2_with fail
          refine (Has_any x 1 s _ hx).mono ?_
          rintro e w5 ⟨rfl, hb5⟩
          rw [G2.out]
          go_wp2_with fail
          refine (alive_any _).mono ?_
          rintro e w6 ⟨rfl, hb6⟩
          go_wp2_with fail
          refine (Drop_q X s false x _ (by assumption) H3).mono ?_
          rintro e w7 ⟨rfl, hb7⟩
          go_wp2_with fail
          go_ret
          exact ⟨rfl, below_then (below_then (below_then (below_then (below_then (below_then hb1 hb2) hb3) hb4) hb5) hb6) hb7⟩
        · have e7 : (((dropW (withW x k s) s true : Nat) : Int) == (x : Int)) = false := by simp; omega
          clear h e4 e5 c e0
          go_enter Try.func8, Try.ntmps8
          go_wp2_with (first
            | (go_at_call 17; refine (With_any _ _ _ _ (by assumption)).mono ?_; rintro e w1 ⟨rfl, hb1⟩)
            | (go_at_call 18; refine (Has_any _ _ _ _ (by assumption)).mono ?_; rintro e w2 ⟨rfl, hb2⟩)
            | (go_at_call 19; refine (RHas_any _ _ _ _ (by assumption)).mono ?_; rintro e w3 ⟨rfl, hb3⟩)
            | (go_at_call 20; refine (RWith_any _ _ _ _ (by assumption)).mono ?_; rintro e w4 ⟨rfl, hb4⟩)
            | (go_at_call 21; refine (Any_any _ _ _ (by assumption)).mono ?_; rintro e w5 ⟨rfl, hb5⟩)
            | (go_at_call 22; refine (RAny_any _ _ _ (by assumption)).mono ?_; rintro e w6 ⟨rfl, hb6⟩)
            | (go_at_call 23; refine (Drop_any _ _ _ _ (by assumption)).mono ?_; rintro e w7 ⟨rfl, hb7⟩)
            | (go_at_call 24; refine (RDrop_any _ _ _ _ (by assumption)).mono ?_; rintro e w8 ⟨rfl, hb8⟩)
            | (go_at_call 12; refine (alive_any _).mono ?_; rintro e w9 ⟨rfl, hb9⟩))
          go_ret
          exact ⟨rfl, by repeat (first | exact Below.refl _ _ | refine below_alloc ?_ _ | refine below_then ?_ (by assumption))⟩
      · have HX := Hid.mk' (with_none x h)
        have H1 := Hid.mk' (drop_same true e1 e2)
        have H2 := H1
        have H3 := Hid.mk' (drop_same false e1 e2)
        have G1 := Hid.mk' e1
        have G2 := Hid.mk' e2
        clear hw hd hdd e1 e2 e3 h
        go_enter Try.func8, Try.ntmps8
        go_wp2_with fail
        refine (With_q x k s x _ hx HX).mono ?_
        rintro e w1 ⟨rfl, hb1⟩
        go_wp2_with fail
        refine (Drop_q x s true x _ (by assumption) H1).mono ?_
        rintro e w2 ⟨rfl, hb2⟩
        go_wp2_with fail
        refine (Drop_q x s true x _ hx H2).mono ?_
        rintro e w3 ⟨rfl, hb3⟩
        go_wp2_with fail
        refine (Has_any x 0 s _ hx).mono ?_
        rintro e w4 ⟨rfl, hb4⟩
        rw [G1.out]
        go_wp2_with fail
        refine (Has_any x 1 s _ hx).mono ?_
        rintro e w5 ⟨rfl, hb5⟩
        rw [G2.out]
        go_wp2_with fail
        refine (alive_any _).mono ?_
        rintro e w6 ⟨rfl, hb6⟩
        go_wp2_with fail
        refine (Drop_q x s false x _ (by assumption) H3).mono ?_
        rintro e w7 ⟨rfl, hb7⟩
        go_wp2_with fail
        go_ret
        exact ⟨rfl, below_then (below_then (below_then (below_then (below_then (below_then hb1 hb2) hb3) hb4) hb5) hb6) hb7⟩
end Go.Proofs.Ytggphjmlnbkngaa
