/-
  Whether a side has any, and words without a slot: the status's functions and the reference's, each under its contract.
-/
import Derived.Test.YtggphjmlnbkngaaD
namespace Go.Proofs.Ytggphjmlnbkngaa
open Go.RowKit
set_option linter.unusedVariables false
set_option linter.unusedSimpArgs false
theorem two_cells (w : World) (a b : Value) :
    let W := (w.alloc (.cells #[a] 3)).alloc (.cells #[b] 3)
    W.cell? ⟨w.heap.size, 0, none⟩ = some a ∧ W.cell? ⟨w.heap.size + 1, 0, none⟩ = some b := by
  constructor
  · exact blk_cell (blk_alloc (blk_new w (.cells #[a] 3)) (.cells #[b] 3)) 0
  · simp
theorem Any_any (x : Nat) (k : Int) (w : World) (hx : x < 18446744073709551616) : Calls Try.prog 21 #[.int .u64 (x : Int), .int .i64 k] w fun e w' => e = .returned (.bool (anyW x k)) ∧ Below w.heap.size w w' := by
  by_cases h : 0 ≤ k ∧ k ≤ 1
  · rw [any_yes h]
    obtain ⟨h1, h2⟩ := h
    have h3 : 0 ≤ k * 12 := by omega
    have h4 : 0 ≤ 24 + k := by omega
    generalize hf : (12 * k).toNat = f at *
    generalize hp : (24 + k).toNat = p at *
    have e1 : k * 12 = (f : Int) := by omega
    have e2 : 24 + k = (p : Int) := by omega
    have hf2 : f < 64 := by omega
    have hp2 : p < 64 := by omega
    have E1 := Hid.mk' e1
    have E2 := Hid.mk' e2
    have B1 := Hid.mk' (bit1 x p)
    clear e1 e2
    by_cases hz : numW x f 12 = 0
    · rw [hz]
      clear hf hp
      go_enter Try.func21, Try.ntmps21
      go_wp2_with fail
      rw [E1.out]
      refine (part_any (f : Int) 12 _).mono ?_
      rintro e w1 ⟨rfl, rfl⟩
      obtain ⟨c1, c2⟩ := two_cells w (.int .i64 (f : Int)) (.int .i64 12)
      have hB := below_alloc (below_alloc (Below.refl w.heap.size w) (.cells #[.int .i64 (f : Int)] 3)) (.cells #[.int .i64 12] 3)
      generalize (w.alloc (Obj.cells #[Value.int IntKind.i64 (f : Int)] 3)).alloc (.cells #[.int .i64 12] 3) = W1 at *
      go_wp2_with fail
      refine (read_any x f 12 _ _ _ hx hf2 (by omega) c1 c2).mono ?_
      rintro e w2 ⟨rfl, hb2⟩
      rw [hz]
      go_wp2_with fail
      rw [E2.out]
      refine (part_any (p : Int) 1 _).mono ?_
      rintro e w1 ⟨rfl, rfl⟩
      obtain ⟨c3, c4⟩ := two_cells w2 (.int .i64 (p : Int)) (.int .i64 1)
      have hB2 := below_alloc (below_alloc (below_then hB hb2) (.cells #[.int .i64 (p : Int)] 3)) (.cells #[.int .i64 1] 3)
      generalize (w2.alloc (Obj.cells #[Value.int IntKind.i64 (p : Int)] 3)).alloc (.cells #[.int .i64 1] 3) = W2 at *
      go_wp2_with fail
      refine (read_any x p 1 _ _ _ hx hp2 (by omega) c3 c4).mono ?_
      rintro e w3 ⟨rfl, hb3⟩
      go_wp2_with fail
      go_ret
      exact ⟨by rw [← B1.out]; simp, below_then hB2 hb3⟩
    · have hz1 : 0 < numW x f 12 := by omega
      rw [decide_eq_true hz]
      generalize hq : numW x f 12 = q at *
      have HQ := Hid.mk' hq
      have hz2 : ((q : Int) != 0) = true := by simp; omega
      clear hf hp hz hq
      go_enter Try.func21, Try.ntmps21
      go_wp2_with fail
      rw [E1.out]
      refine (part_any (f : Int) 12 _).mono ?_
      rintro e w1 ⟨rfl, rfl⟩
      obtain ⟨c1, c2⟩ := two_cells w (.int .i64 (f : Int)) (.int .i64 12)
      have hB := below_alloc (below_alloc (Below.refl w.heap.size w) (.cells #[.int .i64 (f : Int)] 3)) (.cells #[.int .i64 12] 3)
      generalize (w.alloc (Obj.cells #[Value.int IntKind.i64 (f : Int)] 3)).alloc (.cells #[.int .i64 12] 3) = W1 at *
      go_wp2_with fail
      refine (read_any x f 12 _ _ _ hx hf2 (by omega) c1 c2).mono ?_
      rintro e w2 ⟨rfl, hb2⟩
      rw [HQ.out]
      go_wp2_with fail
      go_ret
      exact ⟨by simp, below_then hB hb2⟩
  · rw [any_no h]
    by_cases c1 : k < 0
    · clear h
      go_enter Try.func21, Try.ntmps21
      go_wp2
      go_ret
      exact ⟨rfl, Below.refl _ _⟩
    · have c2 : 1 < k := by omega
      clear h
      go_enter Try.func21, Try.ntmps21
      go_wp2
      go_ret
      exact ⟨rfl, Below.refl _ _⟩
/-- One step of Drop: at a side. -/
def drop1 (x o : Nat) (k s : Int) (g : Bool) : Nat := if hasW x k s then (if g then clr o (bitOf k s) ||| pw (24 + k).toNat else clr o (bitOf k s)) else o
def dropN (x : Nat) (s : Int) (g : Bool) : Nat → Nat
  | 0 => x
  | m + 1 => drop1 x (dropN x s g m) (m : Int) s g
def dropW (x : Nat) (s : Int) (g : Bool) : Nat := dropN x s g 2
theorem drop1_lt {x o : Nat} {k s : Int} (g : Bool) (ho : o < 18446744073709551616) (h0 : 0 ≤ k) (h1 : k ≤ 1) : drop1 x o k s g < 18446744073709551616 := by
  unfold drop1
  have h2 := pw_lt (i := (24 + k).toNat) (by omega)
  have h3 := lt_clr (bitOf k s) ho
  split
  · split
    · exact lt_or h3 h2
    · exact h3
  · exact ho
theorem dropN_lt {x : Nat} {s : Int} (g : Bool) (hx : x < 18446744073709551616) : ∀ m, m ≤ 2 → dropN x s g m < 18446744073709551616
  | 0, _ => hx
  | m + 1, h => drop1_lt g (dropN_lt g hx m (by omega)) (by omega) (by omega)
set_option maxHeartbeats 1000000 in
theorem Drop_any (x : Nat) (s : Int) (g : Bool) (w : World) (hx : x < 18446744073709551616) : Calls Try.prog 23 #[.int .u64 (x : Int), .int .i64 s, .bool g] w fun e w' => e = .returned (.int .u64 (dropW x s g : Int)) ∧ Below w.heap.size w w' := by
  have hi0 : ∀ w, (Instr.index 40 (.agg #[.int .i64 0, .int .i64 1]) (.int .i64 0)).run Try.prog w = .ok (.int .i64 0) w := fun w => by kernel_rfl
  have hi1 : ∀ w, (Instr.index 40 (.agg #[.int .i64 0, .int .i64 1]) (.int .i64 1)).run Try.prog w = .ok (.int .i64 1) w := fun w => by kernel_rfl
  go_enter Try.func23, Try.ntmps23
  go_wp2_with fail
  go_loopw [7, 12] (fun o i wr => ∃ m : Nat, m ≤ 2 ∧ i = .int .i64 (m : Int) ∧ o = .int .u64 (dropN x s g m : Int) ∧ Below w.heap.size w wr) (fun _ i _ => 2 - (intOf i).toNat)
  case atStart => exact ⟨0, by omega, rfl, rfl, Below.refl _ _⟩
  case round =>
    obtain ⟨m, hm, rfl, rfl, hB⟩ := hrel
    have hO := dropN_lt (s := s) g hx m hm
    have hst : Hid (dropN x s g (m + 1) = drop1 x (dropN x s g m) (m : Int) s g) := rfl
    have hend : Hid (dropW x s g = dropN x s g 2) := rfl
    have h01 : m = 0 ∨ m = 1 ∨ m = 2 := by omega
    rcases h01 with rfl | rfl | rfl
    · generalize dropN x s g 0 = O at *
      have hg1 := go_clr O (bitOf 0 s) hO (bitOf_lt 0 s)
      cases hh : hasW x 0 s with
      | false =>
        have e : Hid (dropN x s g (0 + 1) = O) := by
          show _ = _
          rw [hst.out]
          unfold drop1
          rw [show hasW x ((0 : Nat) : Int) s = false from hh]
          rfl
        clear hst hend
        have HH := Hid.mk' hh
        clear hh
        go_wp2_with (first | (go_at_call 18; refine (Has_any x 0 s _ hx).mono ?_; rintro e w1 ⟨rfl, hb1⟩; rw [HH.out]))
        go_roundw
        case rel => exact ⟨0 + 1, by omega, by go_num, by rw [e.out], below_then hB hb1⟩
        case measure => simp [intOf] <;> omega
      | true =>
        have HH := Hid.mk' hh
        have hl := lt_clr (bitOf 0 s) hO
        cases g with
        | false =>
          have hg2 : bits .or .u64 ((clr O (bitOf 0 s) : Nat) : Int) 0 = ((clr O (bitOf 0 s) : Nat) : Int) := by
            have := go_or (clr O (bitOf 0 s)) 0 hl (by omega)
            simpa using this
          have e : Hid (dropN x s false (0 + 1) = clr O (bitOf 0 s)) := by
            show _ = _
            rw [hst.out]
            unfold drop1
            rw [show hasW x ((0 : Nat) : Int) s = true from hh]
            rfl
          clear hst hend hh
          go_wp2_with (first | (go_at_call 18; refine (Has_any x 0 s _ hx).mono ?_; rintro e w1 ⟨rfl, hb1⟩; rw [HH.out]) | (go_at_call 32; refine (of_any _ _ _).mono ?_; rintro e w2 ⟨rfl, hb2⟩) | (go_at_call 25; refine (bit_any _ _).mono ?_; rintro e w3 ⟨rfl, hb3⟩))
          go_roundw
          case rel => exact ⟨0 + 1, by omega, by go_num, by rw [e.out], below_then (below_then (below_then hB hb1) hb2) hb3⟩
          case measure => simp [intOf] <;> omega
        | true =>
          have hg2 : bits .or .u64 ((clr O (bitOf 0 s) : Nat) : Int) 16777216 = ((clr O (bitOf 0 s) ||| 16777216 : Nat) : Int) := go_or (clr O (bitOf 0 s)) 16777216 hl (by omega)
          have e : Hid (dropN x s true (0 + 1) = clr O (bitOf 0 s) ||| 16777216) := by
            show _ = _
            rw [hst.out]
            unfold drop1
            rw [show hasW x ((0 : Nat) : Int) s = true from hh]
            rfl
          clear hst hend hh
          go_wp2_with (first | (go_at_call 18; refine (Has_any x 0 s _ hx).mono ?_; rintro e w1 ⟨rfl, hb1⟩; rw [HH.out]) | (go_at_call 32; refine (of_any _ _ _).mono ?_; rintro e w2 ⟨rfl, hb2⟩) | (go_at_call 25; refine (bit_any _ _).mono ?_; rintro e w3 ⟨rfl, hb3⟩))
          go_roundw
          case rel => exact ⟨0 + 1, by omega, by go_num, by rw [e.out], below_then (below_then (below_then hB hb1) hb2) hb3⟩
          case measure => simp [intOf] <;> omega
    · generalize dropN x s g 1 = O at *
      have hg1 := go_clr O (bitOf 1 s) hO (bitOf_lt 1 s)
      cases hh : hasW x 1 s with
      | false =>
        have e : Hid (dropN x s g (1 + 1) = O) := by
          show _ = _
          rw [hst.out]
          unfold drop1
          rw [show hasW x ((1 : Nat) : Int) s = false from hh]
          rfl
        clear hst hend
        have HH := Hid.mk' hh
        clear hh
        go_wp2_with (first | (go_at_call 18; refine (Has_any x 1 s _ hx).mono ?_; rintro e w1 ⟨rfl, hb1⟩; rw [HH.out]))
        go_roundw
        case rel => exact ⟨1 + 1, by omega, by go_num, by rw [e.out], below_then hB hb1⟩
        case measure => simp [intOf] <;> omega
      | true =>
        have HH := Hid.mk' hh
        have hl := lt_clr (bitOf 1 s) hO
        cases g with
        | false =>
          have hg2 : bits .or .u64 ((clr O (bitOf 1 s) : Nat) : Int) 0 = ((clr O (bitOf 1 s) : Nat) : Int) := by
            have := go_or (clr O (bitOf 1 s)) 0 hl (by omega)
            simpa using this
          have e : Hid (dropN x s false (1 + 1) = clr O (bitOf 1 s)) := by
            show _ = _
            rw [hst.out]
            unfold drop1
            rw [show hasW x ((1 : Nat) : Int) s = true from hh]
            rfl
          clear hst hend hh
          go_wp2_with (first | (go_at_call 18; refine (Has_any x 1 s _ hx).mono ?_; rintro e w1 ⟨rfl, hb1⟩; rw [HH.out]) | (go_at_call 32; refine (of_any _ _ _).mono ?_; rintro e w2 ⟨rfl, hb2⟩) | (go_at_call 25; refine (bit_any _ _).mono ?_; rintro e w3 ⟨rfl, hb3⟩))
          go_roundw
          case rel => exact ⟨1 + 1, by omega, by go_num, by rw [e.out], below_then (below_then (below_then hB hb1) hb2) hb3⟩
          case measure => simp [intOf] <;> omega
        | true =>
          have hg2 : bits .or .u64 ((clr O (bitOf 1 s) : Nat) : Int) 33554432 = ((clr O (bitOf 1 s) ||| 33554432 : Nat) : Int) := go_or (clr O (bitOf 1 s)) 33554432 hl (by omega)
          have e : Hid (dropN x s true (1 + 1) = clr O (bitOf 1 s) ||| 33554432) := by
            show _ = _
            rw [hst.out]
            unfold drop1
            rw [show hasW x ((1 : Nat) : Int) s = true from hh]
            rfl
          clear hst hend hh
          go_wp2_with (first | (go_at_call 18; refine (Has_any x 1 s _ hx).mono ?_; rintro e w1 ⟨rfl, hb1⟩; rw [HH.out]) | (go_at_call 32; refine (of_any _ _ _).mono ?_; rintro e w2 ⟨rfl, hb2⟩) | (go_at_call 25; refine (bit_any _ _).mono ?_; rintro e w3 ⟨rfl, hb3⟩))
          go_roundw
          case rel => exact ⟨1 + 1, by omega, by go_num, by rw [e.out], below_then (below_then (below_then hB hb1) hb2) hb3⟩
          case measure => simp [intOf] <;> omega
    · clear hst
      generalize dropN x s g 2 = O at *
      go_wp2
      go_ret
      exact ⟨by rw [hend.out]; simp, hB⟩
set_option maxHeartbeats 1000000 in
theorem RDrop_any (x : Nat) (s : Int) (g : Bool) (w : World) (hx : x < 18446744073709551616) : Calls Try.prog 24 #[.int .u64 (x : Int), .int .i64 s, .bool g] w fun e w' => e = .returned (.int .u64 (dropW x s g : Int)) ∧ Below w.heap.size w w' := by
  go_enter Try.func24, Try.ntmps24
  go_wp2_with fail
  go_loopw [7, 8] (fun o i wr => ∃ m : Nat, m ≤ 2 ∧ i = .int .i64 (m : Int) ∧ o = .int .u64 (dropN x s g m : Int) ∧ Below w.heap.size w wr) (fun _ i _ => 2 - (intOf i).toNat)
  case atStart => exact ⟨0, by omega, rfl, rfl, Below.refl _ _⟩
  case round =>
    obtain ⟨m, hm, rfl, rfl, hB⟩ := hrel
    have hO := dropN_lt (s := s) g hx m hm
    have hst : Hid (dropN x s g (m + 1) = drop1 x (dropN x s g m) (m : Int) s g) := rfl
    have hend : Hid (dropW x s g = dropN x s g 2) := rfl
    have h01 : m = 0 ∨ m = 1 ∨ m = 2 := by omega
    rcases h01 with rfl | rfl | rfl
    · generalize dropN x s g 0 = O at *
      cases hh : hasW x 0 s with
      | false =>
        have e : Hid (dropN x s g (0 + 1) = O) := by
          show _ = _
          rw [hst.out]
          unfold drop1
          rw [show hasW x ((0 : Nat) : Int) s = false from hh]
          rfl
        clear hst hend
        have HH := Hid.mk' hh
        clear hh
        go_wp2_with (first | (go_at_call 19; refine (RHas_any x 0 s _ hx).mono ?_; rintro e w1 ⟨rfl, hb1⟩; rw [HH.out]))
        go_roundw
        case rel => exact ⟨0 + 1, by omega, by go_num, by rw [e.out], below_then hB hb1⟩
        case measure => simp [intOf] <;> omega
      | true =>
        have HH := Hid.mk' hh
        have hs : 0 ≤ s ∧ s < 12 := by
          by_cases c : 0 ≤ (0 : Int) ∧ (0 : Int) ≤ 1 ∧ 0 ≤ s ∧ s < 12
          · exact ⟨c.2.2.1, c.2.2.2⟩
          · unfold hasW at hh
            rw [(of_none c).1] at hh
            simp at hh
        obtain ⟨s0, s1⟩ := hs
        obtain ⟨q, hq⟩ := Int.eq_ofNat_of_zero_le (show 0 ≤ 12 * 0 + s by omega)
        have hq2 : q < 64 := by omega
        have hl := putW_lt (n := q) false hO hq2
        have hob : putW O q false = clr O (bitOf 0 s) := by
          unfold putW
          rw [(of_some (k := 0) (s := s) ⟨by omega, by omega, s0, s1⟩).2, hq]
          rfl
        have HO := Hid.mk' hob
        have HQ := Hid.mk' hq
        clear hob hq
        cases g with
        | false =>
          have e : Hid (dropN x s false (0 + 1) = putW O q false) := by
            show _ = _
            rw [hst.out, HO.out]
            unfold drop1
            rw [show hasW x ((0 : Nat) : Int) s = true from hh]
            rfl
          clear hst hend hh HO
          have e0 := Hid.mk' (show putW O q false = putW O q false from rfl)
          go_wp2_with fail
          refine (RHas_any x 0 s _ hx).mono ?_
          rintro e' w1 ⟨rfl, hb1⟩
          rw [HH.out]
          go_wp2_with fail
          refine (at_yes _ _ _ (by omega) (by omega) s0 s1).mono ?_
          rintro e' w2 ⟨rfl, hb2⟩
          rw [HQ.out]
          go_wp2_with fail
          refine (Put_any O q false _ hO hq2).mono ?_
          rintro e' w3 ⟨rfl, hb3⟩
          generalize putW O q false = O2 at *
          go_wp2_with fail
          go_roundw
          case rel => exact ⟨0 + 1, by omega, by go_num, by rw [e.out], below_then (below_then (below_then hB hb1) hb2) hb3⟩
          case measure => simp [intOf] <;> omega
        | true =>
          have e : Hid (dropN x s true (0 + 1) = putW (putW O q false) 24 true) := by
            show _ = _
            rw [hst.out, HO.out]
            unfold drop1
            rw [show hasW x ((0 : Nat) : Int) s = true from hh]
            rfl
          clear hst hend hh HO
          have e0 := Hid.mk' (show putW O q false = putW O q false from rfl)
          go_wp2_with fail
          refine (RHas_any x 0 s _ hx).mono ?_
          rintro e' w1 ⟨rfl, hb1⟩
          rw [HH.out]
          go_wp2_with fail
          refine (at_yes _ _ _ (by omega) (by omega) s0 s1).mono ?_
          rintro e' w2 ⟨rfl, hb2⟩
          rw [HQ.out]
          go_wp2_with fail
          refine (Put_any O q false _ hO hq2).mono ?_
          rintro e' w3 ⟨rfl, hb3⟩
          generalize putW O q false = O2 at *
          go_wp2_with fail
          refine (Put_any O2 24 true _ hl (by omega)).mono ?_
          rintro e' w4 ⟨rfl, hb4⟩
          generalize putW O2 24 true = O3 at *
          go_wp2_with fail
          go_roundw
          case rel => exact ⟨0 + 1, by omega, by go_num, by rw [e.out], below_then (below_then (below_then (below_then hB hb1) hb2) hb3) hb4⟩
          case measure => simp [intOf] <;> omega
    · generalize dropN x s g 1 = O at *
      cases hh : hasW x 1 s with
      | false =>
        have e : Hid (dropN x s g (1 + 1) = O) := by
          show _ = _
          rw [hst.out]
          unfold drop1
          rw [show hasW x ((1 : Nat) : Int) s = false from hh]
          rfl
        clear hst hend
        have HH := Hid.mk' hh
        clear hh
        go_wp2_with (first | (go_at_call 19; refine (RHas_any x 1 s _ hx).mono ?_; rintro e w1 ⟨rfl, hb1⟩; rw [HH.out]))
        go_roundw
        case rel => exact ⟨1 + 1, by omega, by go_num, by rw [e.out], below_then hB hb1⟩
        case measure => simp [intOf] <;> omega
      | true =>
        have HH := Hid.mk' hh
        have hs : 0 ≤ s ∧ s < 12 := by
          by_cases c : 0 ≤ (1 : Int) ∧ (1 : Int) ≤ 1 ∧ 0 ≤ s ∧ s < 12
          · exact ⟨c.2.2.1, c.2.2.2⟩
          · unfold hasW at hh
            rw [(of_none c).1] at hh
            simp at hh
        obtain ⟨s0, s1⟩ := hs
        obtain ⟨q, hq⟩ := Int.eq_ofNat_of_zero_le (show 0 ≤ 12 * 1 + s by omega)
        have hq2 : q < 64 := by omega
        have hl := putW_lt (n := q) false hO hq2
        have hob : putW O q false = clr O (bitOf 1 s) := by
          unfold putW
          rw [(of_some (k := 1) (s := s) ⟨by omega, by omega, s0, s1⟩).2, hq]
          rfl
        have HO := Hid.mk' hob
        have HQ := Hid.mk' hq
        clear hob hq
        cases g with
        | false =>
          have e : Hid (dropN x s false (1 + 1) = putW O q false) := by
            show _ = _
            rw [hst.out, HO.out]
            unfold drop1
            rw [show hasW x ((1 : Nat) : Int) s = true from hh]
            rfl
          clear hst hend hh HO
          have e0 := Hid.mk' (show putW O q false = putW O q false from rfl)
          go_wp2_with fail
          refine (RHas_any x 1 s _ hx).mono ?_
          rintro e' w1 ⟨rfl, hb1⟩
          rw [HH.out]
          go_wp2_with fail
          refine (at_yes _ _ _ (by omega) (by omega) s0 s1).mono ?_
          rintro e' w2 ⟨rfl, hb2⟩
          rw [HQ.out]
          go_wp2_with fail
          refine (Put_any O q false _ hO hq2).mono ?_
          rintro e' w3 ⟨rfl, hb3⟩
          generalize putW O q false = O2 at *
          go_wp2_with fail
          go_roundw
          case rel => exact ⟨1 + 1, by omega, by go_num, by rw [e.out], below_then (below_then (below_then hB hb1) hb2) hb3⟩
          case measure => simp [intOf] <;> omega
        | true =>
          have e : Hid (dropN x s true (1 + 1) = putW (putW O q false) 25 true) := by
            show _ = _
            rw [hst.out, HO.out]
            unfold drop1
            rw [show hasW x ((1 : Nat) : Int) s = true from hh]
            rfl
          clear hst hend hh HO
          have e0 := Hid.mk' (show putW O q false = putW O q false from rfl)
          go_wp2_with fail
          refine (RHas_any x 1 s _ hx).mono ?_
          rintro e' w1 ⟨rfl, hb1⟩
          rw [HH.out]
          go_wp2_with fail
          refine (at_yes _ _ _ (by omega) (by omega) s0 s1).mono ?_
          rintro e' w2 ⟨rfl, hb2⟩
          rw [HQ.out]
          go_wp2_with fail
          refine (Put_any O q false _ hO hq2).mono ?_
          rintro e' w3 ⟨rfl, hb3⟩
          generalize putW O q false = O2 at *
          go_wp2_with fail
          refine (Put_any O2 25 true _ hl (by omega)).mono ?_
          rintro e' w4 ⟨rfl, hb4⟩
          generalize putW O2 25 true = O3 at *
          go_wp2_with fail
          go_roundw
          case rel => exact ⟨1 + 1, by omega, by go_num, by rw [e.out], below_then (below_then (below_then (below_then hB hb1) hb2) hb3) hb4⟩
          case measure => simp [intOf] <;> omega
    · clear hst
      generalize dropN x s g 2 = O at *
      go_wp2
      go_ret
      exact ⟨by rw [hend.out]; simp, hB⟩
end Go.Proofs.Ytggphjmlnbkngaa
