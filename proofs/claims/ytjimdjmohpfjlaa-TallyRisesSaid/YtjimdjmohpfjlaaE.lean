/-
  The walk of the law TallyRises: a loop over the slots.
-/
import Derived.Test.YtjimdjmohpfjlaaD
namespace Go.Proofs.Ytjimdjmohpfjlaa
open Go.RowKit
set_option linter.unusedVariables false
set_option linter.unusedSimpArgs false
set_option maxHeartbeats 1000000 in
theorem TallyRises_walk (q : Int) (wq : (Lit.int .u64 q).wf = true) (a : Option Addr) (len cap : Nat) (zs : List Int) (w : World) (hz : IsInts .i64 w a len zs) :
    Calls Try.prog 6 #[.int .u64 q, .slice a len cap] w fun e w' => e = .returned (.bool true) ∧ Below w.heap.size w w' := by
  obtain ⟨h0, h1⟩ := u64_bd wq
  clear wq
  by_cases hs : q ≤ 1099511627775
  · have p1 : packB q (-1) = true := by unfold packB; simp; omega
    have p2 : packW q (-1) = 16 * q := by unfold packW; simp [hs]
    have HP1 : Hid (packW q (-1) = 16 * q) := p2
    by_cases hlen : (100 : Int) < (len : Int)
    · clear hz p2 HP1
      go_enter Try.func6, Try.ntmps6
      go_wp2_with (first
        | (go_at_call 9; refine (Pack_any _ _ _ (by assumption)).mono ?_; rintro e w1 ⟨rfl, hb1⟩)
        | (go_at_call 11; refine (alive_any _).mono ?_; rintro e w3 ⟨rfl, hb3⟩))
      go_ret
      exact ⟨rfl, by repeat (first | exact Below.refl _ _ | refine below_alloc ?_ _ | refine below_then ?_ (by assumption))⟩
    · obtain ⟨hzl, hzm, hzw, hzc⟩ := hz
      clear hzm
      have hlen' : len ≤ 100 := by omega
      clear p2 hlen
      go_enter Try.func6, Try.ntmps6
      go_wp2_with (first
        | (go_at_call 9; refine (Pack_any _ _ _ (by assumption)).mono ?_; rintro e w1 ⟨rfl, hb1⟩))
      go_loopw [5, 29] (fun u k wr => ∃ m : Nat, m ≤ len ∧ k = .int .i64 m ∧ q + m ≤ 1099511627775 ∧ u = .int .u64 (16 * (q + m)) ∧ Below w.heap.size w wr) (fun _ k _ => len - (intOf k).toNat)
      case atStart => exact ⟨0, by omega, rfl, by omega, by rw [HP1.out]; simp, hb1⟩
      case round =>
        obtain ⟨m, hm, rfl, hq, rfl, HB⟩ := hrel
        clear hb1 p1 HP1
        by_cases hlt : m < len
        · obtain ⟨x, rfl, hcell⟩ := hzc (by omega)
          have hc := hcell m hlt
          have hc' : wr.cell? (x.add m) = some (.int .i64 (zs.getD m 0)) := by
            rw [HB.cell (World.block_lt_of_cell? w _ hc)]; exact hc
          clear hcell hc
          have hx1 : 0 ≤ 16 * (q + m) := by omega
          have hx2 : 16 * (q + m) < 18446744073709551616 := by omega
          generalize zs.getD m 0 = s at hc'
          by_cases c1 : 0 ≤ s
          · by_cases c2 : s < 12
            · by_cases c3 : q + m < 1099511627775
              · obtain ⟨n1, n2⟩ := next_yes (x := 16 * (q + m)) (p := s) (by omega)
                have n3 : Hid (nextW (16 * (q + m)) s = 16 * (q + m + 1) + (s + 1)) := by show _ = _; rw [n2]; omega
                clear n2
                have hf := field_seq
                have y1 : 0 ≤ nextW (16 * (q + m)) s := by rw [n3.out]; omega
                have y2 : nextW (16 * (q + m)) s < 18446744073709551616 := by rw [n3.out]; omega
                have y3 := (next_no (x := nextW (16 * (q + m)) s) (p := s) (by rw [n3.out]; omega)).1
                have y4 : nextW (16 * (q + m)) s / 16 * 16 = 16 * (q + m + 1) := by rw [n3.out]; omega
                have y5 : 0 ≤ 16 * (q + m + 1) := by omega
                have y6 : 16 * (q + m + 1) < 18446744073709551616 := by omega
                have y7 : 16 * (q + (m : Int) + 1) / 16 = q + m + 1 := by omega
                go_wp2_with (first
                  | (go_at_call 16; refine (Next_any _ _ _ (by assumption) (by assumption)).mono ?_; rintro e w2 ⟨rfl, hb2⟩)
                  | (go_at_call 13; refine (Settled_any _ _ (by assumption) (by assumption)).mono ?_; rintro e w4 ⟨rfl, hb4⟩)
                  | (go_at_call 12; refine (Unpack_any _ _ (by assumption) (by assumption)).mono ?_; rintro e w5 ⟨rfl, hb5⟩)
                  | (go_at_call 11; refine (alive_any _).mono ?_; rintro e w3 ⟨rfl, hb3⟩))
                go_roundw
                case rel => exact ⟨m + 1, by omega, by go_num, by omega, by go_num, by repeat (first | exact Below.refl _ _ | assumption | refine below_alloc ?_ _ | refine below_then ?_ (by assumption))⟩
                case measure => simp [intOf]; omega
              · obtain ⟨n1, n2⟩ := next_no (x := 16 * (q + m)) (p := s) (by omega)
                go_wp2_with (first
                  | (go_at_call 16; refine (Next_any _ _ _ (by assumption) (by assumption)).mono ?_; rintro e w2 ⟨rfl, hb2⟩)
                  | (go_at_call 13; refine (Settled_any _ _ (by assumption) (by assumption)).mono ?_; rintro e w4 ⟨rfl, hb4⟩)
                  | (go_at_call 12; refine (Unpack_any _ _ (by assumption) (by assumption)).mono ?_; rintro e w5 ⟨rfl, hb5⟩)
                  | (go_at_call 11; refine (alive_any _).mono ?_; rintro e w3 ⟨rfl, hb3⟩))
                go_ret
                exact ⟨rfl, by repeat (first | exact Below.refl _ _ | assumption | refine below_alloc ?_ _ | refine below_then ?_ (by assumption))⟩
            · obtain ⟨n1, n2⟩ := next_no (x := 16 * (q + m)) (p := s) (by omega)
              go_wp2_with (first
                | (go_at_call 16; refine (Next_any _ _ _ (by assumption) (by assumption)).mono ?_; rintro e w2 ⟨rfl, hb2⟩)
                | (go_at_call 13; refine (Settled_any _ _ (by assumption) (by assumption)).mono ?_; rintro e w4 ⟨rfl, hb4⟩)
                | (go_at_call 12; refine (Unpack_any _ _ (by assumption) (by assumption)).mono ?_; rintro e w5 ⟨rfl, hb5⟩)
                | (go_at_call 11; refine (alive_any _).mono ?_; rintro e w3 ⟨rfl, hb3⟩))
              go_ret
              exact ⟨rfl, by repeat (first | exact Below.refl _ _ | assumption | refine below_alloc ?_ _ | refine below_then ?_ (by assumption))⟩
          · obtain ⟨n1, n2⟩ := next_no (x := 16 * (q + m)) (p := s) (by omega)
            go_wp2_with (first
              | (go_at_call 16; refine (Next_any _ _ _ (by assumption) (by assumption)).mono ?_; rintro e w2 ⟨rfl, hb2⟩)
              | (go_at_call 13; refine (Settled_any _ _ (by assumption) (by assumption)).mono ?_; rintro e w4 ⟨rfl, hb4⟩)
              | (go_at_call 12; refine (Unpack_any _ _ (by assumption) (by assumption)).mono ?_; rintro e w5 ⟨rfl, hb5⟩)
              | (go_at_call 11; refine (alive_any _).mono ?_; rintro e w3 ⟨rfl, hb3⟩))
            go_ret
            exact ⟨rfl, by repeat (first | exact Below.refl _ _ | assumption | refine below_alloc ?_ _ | refine below_then ?_ (by assumption))⟩
        · obtain rfl : m = len := by omega
          go_wp2_with (first
            | (go_at_call 16; refine (Next_any _ _ _ (by assumption) (by assumption)).mono ?_; rintro e w2 ⟨rfl, hb2⟩)
            | (go_at_call 13; refine (Settled_any _ _ (by assumption) (by assumption)).mono ?_; rintro e w4 ⟨rfl, hb4⟩)
            | (go_at_call 12; refine (Unpack_any _ _ (by assumption) (by assumption)).mono ?_; rintro e w5 ⟨rfl, hb5⟩)
            | (go_at_call 11; refine (alive_any _).mono ?_; rintro e w3 ⟨rfl, hb3⟩))
          go_ret
          exact ⟨rfl, by repeat (first | exact Below.refl _ _ | assumption | refine below_alloc ?_ _ | refine below_then ?_ (by assumption))⟩
  · have p1 : packB q (-1) = false := by unfold packB; simp; omega
    clear hz
    go_enter Try.func6, Try.ntmps6
    go_wp2_with (first
      | (go_at_call 9; refine (Pack_any _ _ _ (by assumption)).mono ?_; rintro e w1 ⟨rfl, hb1⟩)
      | (go_at_call 11; refine (alive_any _).mono ?_; rintro e w3 ⟨rfl, hb3⟩))
    go_ret
    exact ⟨rfl, by repeat (first | exact Below.refl _ _ | refine below_alloc ?_ _ | refine below_then ?_ (by assumption))⟩
end Go.Proofs.Ytjimdjmohpfjlaa
