/-
  The walks of the laws StatusDrops and StatusMoves.
-/
import Derived.Test.YtggphjmlnbkngaaK
namespace Go.Proofs.Ytggphjmlnbkngaa
open Go.RowKit
set_option linter.unusedVariables false
set_option linter.unusedSimpArgs false
theorem Has_q (x : Nat) (k s : Int) (r : Bool) (w : World) (hx : x < 18446744073709551616) (hr : Hid (hasW x k s = r)) : Calls Try.prog 18 #[.int .u64 (x : Int), .int .i64 k, .int .i64 s] w fun e w' => e = .returned (.bool r) ∧ Below w.heap.size w w' := by
  have h : hasW x k s = r := hr.out
  rw [← h]
  exact Has_any x k s w hx
theorem Any_q (x : Nat) (k : Int) (r : Bool) (w : World) (hx : x < 18446744073709551616) (hr : Hid (anyW x k = r)) : Calls Try.prog 21 #[.int .u64 (x : Int), .int .i64 k] w fun e w' => e = .returned (.bool r) ∧ Below w.heap.size w w' := by
  have h : anyW x k = r := hr.out
  rw [← h]
  exact Any_any x k w hx
theorem RDrop_q (x : Nat) (s : Int) (g : Bool) (r : Nat) (w : World) (hx : x < 18446744073709551616) (hr : Hid (dropW x s g = r)) : Calls Try.prog 24 #[.int .u64 (x : Int), .int .i64 s, .bool g] w fun e w' => e = .returned (.int .u64 (r : Int)) ∧ Below w.heap.size w w' := by
  have h : dropW x s g = r := hr.out
  rw [← h]
  exact RDrop_any x s g w hx
set_option maxHeartbeats 1000000 in
theorem StatusDrops_walk (x : Int) (wx : (Lit.int .u64 x).wf = true) (s : Int) (ws : (Lit.int .i64 s).wf = true) (g : Bool) (w : World) :
    Calls Try.prog 7 #[.int .u64 x, .int .i64 s, .bool g] w fun e w' => e = .returned (.bool true) ∧ Below w.heap.size w w' := by
  obtain ⟨h0, h1⟩ := u64_bd wx
  obtain ⟨x, rfl⟩ := Int.eq_ofNat_of_zero_le h0
  have hx : x < 18446744073709551616 := by omega
  clear wx ws h0 h1
  have hd := dropW_lt s g hx
  have F1 := fun (k : Int) (h0 : 0 ≤ k) (h1 : k ≤ 1) => Hid.mk' (has_drop x (s := s) g h0 h1)
  have F2 := fun (k : Int) (h0 : 0 ≤ k) (h1 : k ≤ 1) (hg : g = true) (hh : hasW x k s = true) => Hid.mk' (show anyW (dropW x s g) k = true by subst hg; exact any_drop_had h0 h1 hh)
  have F3 := fun (k : Int) (h0 : 0 ≤ k) (h1 : k ≤ 1) (hh : hasW x k s = false) => Hid.mk' (any_drop_not g h0 h1 hh)
  generalize hD : dropW x s g = D at *
  have HD := Hid.mk' hD
  clear hD
  go_enter Try.func7, Try.ntmps7
  go_wp2_with fail
  refine (Drop_q x s g D _ hx HD).mono ?_
  rintro e w1 ⟨rfl, hb1⟩
  go_wp2_with fail
  refine (RDrop_q x s g D _ hx HD).mono ?_
  rintro e w2 ⟨rfl, hb2⟩
  have hB0 := below_then hb1 hb2
  clear hb1 hb2
  go_wp2_with fail
  go_loopw [20] (fun i wr => ∃ m : Nat, m ≤ 2 ∧ i = .int .i64 (m : Int) ∧ Below w.heap.size w wr) (fun i _ => 2 - (intOf i).toNat)
  case atStart => exact ⟨0, by omega, rfl, hB0⟩
  case round =>
    obtain ⟨m, hm, rfl, hB⟩ := hrel
    by_cases hlt : m < 2
    · have G1 := F1 (m : Int) (by omega) (by omega)
      cases hh : hasW x (m : Int) s with
      | true =>
        have HH := Hid.mk' hh
        cases hg : g with
        | true =>
          have G2 := F2 (m : Int) (by omega) (by omega) hg hh
          clear F1 F2 F3 hh
          subst hg
          go_wp2_with fail
          refine (Has_q x m s true _ hx HH).mono ?_
          rintro e w1 ⟨rfl, hb1⟩
          go_wp2_with fail
          refine (Has_q D m s false _ hd G1).mono ?_
          rintro e w2 ⟨rfl, hb2⟩
          go_wp2_with fail
          refine (Any_q D m true _ hd G2).mono ?_
          rintro e w3 ⟨rfl, hb3⟩
          go_wp2_with fail
          go_roundw
          case rel => exact ⟨m + 1, by omega, by go_num, below_then (below_then (below_then hB hb1) hb2) hb3⟩
          case measure => simp [intOf] <;> omega
        | false =>
          clear F1 F2 F3 hh
          subst hg
          go_wp2_with fail
          refine (Has_q x m s true _ hx HH).mono ?_
          rintro e w1 ⟨rfl, hb1⟩
          go_wp2_with fail
          refine (Has_q D m s false _ hd G1).mono ?_
          rintro e w2 ⟨rfl, hb2⟩
          go_wp2_with fail
          go_roundw
          case rel => exact ⟨m + 1, by omega, by go_num, below_then (below_then hB hb1) hb2⟩
          case measure => simp [intOf] <;> omega
      | false =>
        have HH := Hid.mk' hh
        have G3 := F3 (m : Int) (by omega) (by omega) hh
        obtain ⟨r, hr⟩ : ∃ r, anyW x (m : Int) = r := ⟨_, rfl⟩
        have G4 := Hid.mk' (G3.out.trans hr)
        have G5 := Hid.mk' hr
        clear F1 F2 F3 hh G3 hr
        cases hg : g with
        | true =>
          subst hg
          go_wp2_with fail
          refine (Has_q x m s false _ hx HH).mono ?_
          rintro e w1 ⟨rfl, hb1⟩
          go_wp2_with fail
          refine (Has_q D m s false _ hd G1).mono ?_
          rintro e w2 ⟨rfl, hb2⟩
          go_wp2_with fail
          refine (Any_q D m r _ hd G4).mono ?_
          rintro e w3 ⟨rfl, hb3⟩
          go_wp2_with fail
          refine (Any_q x m r _ hx G5).mono ?_
          rintro e w4 ⟨rfl, hb4⟩
          go_wp2_with fail
          go_roundw
          case rel => exact ⟨m + 1, by omega, by go_num, below_then (below_then (below_then (below_then hB hb1) hb2) hb3) hb4⟩
          case measure => simp [intOf] <;> omega
        | false =>
          subst hg
          go_wp2_with fail
          refine (Has_q x m s false _ hx HH).mono ?_
          rintro e w1 ⟨rfl, hb1⟩
          go_wp2_with fail
          refine (Has_q D m s false _ hd G1).mono ?_
          rintro e w2 ⟨rfl, hb2⟩
          go_wp2_with fail
          refine (Any_q D m r _ hd G4).mono ?_
          rintro e w3 ⟨rfl, hb3⟩
          go_wp2_with fail
          refine (Any_q x m r _ hx G5).mono ?_
          rintro e w4 ⟨rfl, hb4⟩
          go_wp2_with fail
          go_roundw
          case rel => exact ⟨m + 1, by omega, by go_num, below_then (below_then (below_then (below_then hB hb1) hb2) hb3) hb4⟩
          case measure => simp [intOf] <;> omega
    · obtain rfl : m = 2 := by omega
      clear F1 F2 F3
      go_wp2_with fail
      refine (alive_any _).mono ?_
      rintro e w4 ⟨rfl, hb4⟩
      go_wp2_with fail
      go_ret
      exact ⟨rfl, below_then hB hb4⟩
end Go.Proofs.Ytggphjmlnbkngaa
