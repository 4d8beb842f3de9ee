/-
  The example that each law of the mark bears.
-/
import Derived.Test.YtepbnfekicdlpaaE
namespace Go.Proofs.Ytepbnfekicdlpaa
open Go.RowKit
set_option linter.unusedVariables false
set_option linter.unusedSimpArgs false
theorem l1 (w : World) : Calls Try.prog 10 #[.int .u64 1, .int .i64 1, .int .i64 1] w fun e w' => e = .returned (.int .u64 8193) ∧ Below w.heap.size w w' := by
  have h := With_any 1 1 1 w (by omega)
  rw [show withW 1 1 1 = 8193 by decide] at h
  exact h
theorem l2 (w : World) : Calls Try.prog 12 #[.int .u64 8193, .int .i64 0, .int .i64 0] w fun e w' => e = .returned (.bool true) ∧ Below w.heap.size w w' := by
  have h := Has_any 8193 0 0 w (by omega)
  rw [show hasW 8193 0 0 = true by decide] at h
  exact h
theorem l3 (w : World) : Calls Try.prog 12 #[.int .u64 8193, .int .i64 1, .int .i64 1] w fun e w' => e = .returned (.bool true) ∧ Below w.heap.size w w' := by
  have h := Has_any 8193 1 1 w (by omega)
  rw [show hasW 8193 1 1 = true by decide] at h
  exact h
theorem l4 (w : World) : Calls Try.prog 12 #[.int .u64 8193, .int .i64 0, .int .i64 1] w fun e w' => e = .returned (.bool false) ∧ Below w.heap.size w w' := by
  have h := Has_any 8193 0 1 w (by omega)
  rw [show hasW 8193 0 1 = false by decide] at h
  exact h
theorem l5 (w : World) : Calls Try.prog 18 #[.int .u64 8197, .int .i64 0] w (RetInts [0, 2] w) := by
  have h := Slots_any 8197 0 w (by omega)
  rw [show but (-1) (upto 8197 0 12) = [0, 2] by decide] at h
  exact h
theorem l6 (w : World) : Calls Try.prog 20 #[.int .u64 8197, .int .i64 0, .int .i64 2] w (RetInts [0] w) := by
  have h := Others_any 8197 0 2 w (by omega)
  rw [show but 2 (upto 8197 0 12) = [0] by decide] at h
  exact h
theorem l7 (w : World) : Calls Try.prog 15 #[.int .u64 8193, .int .i64 1] w fun e w' => e = .returned (.int .u64 1) ∧ Below w.heap.size w w' := by
  have h := Drop_any 8193 1 w (by omega)
  rw [show dropW 8193 1 = 1 by decide] at h
  exact h
theorem isInts_alloc {w : World} {a : Option Addr} {n : Nat} {L : List Int} (h : IsInts .i64 w a n L) (o : Obj) : IsInts .i64 (w.alloc o) a n L :=
  ⟨h.1, h.2.1, h.2.2.1, fun hn => by
    obtain ⟨x, e, hc⟩ := h.2.2.2 hn
    exact ⟨x, e, fun i hi => by rw [World.cell?_alloc_lt _ _ _ (World.block_lt_of_cell? w _ (hc i hi))]; exact hc i hi⟩⟩
theorem isInts_below {w w' : World} {a : Option Addr} {n : Nat} {L : List Int} (h : IsInts .i64 w a n L) (hb : Below w.heap.size w w') : IsInts .i64 w' a n L :=
  ⟨h.1, h.2.1, h.2.2.1, fun hn => by
    obtain ⟨x, e, hc⟩ := h.2.2.2 hn
    exact ⟨x, e, fun i hi => by rw [hb.cell (World.block_lt_of_cell? w _ (hc i hi))]; exact hc i hi⟩⟩
theorem isInts_lit2 (w : World) : IsInts .i64 (w.alloc (.cells #[.int .i64 0, .int .i64 2] 3)) (some ⟨w.heap.size, 0, none⟩) 2 [0, 2] :=
  ⟨rfl, by decide, fun i hi => by (match i, hi with | 0, _ => decide | 1, _ => decide), fun _ => ⟨_, rfl, fun i hi => by (match i, hi with | 0, _ => (simp [Addr.add]) | 1, _ => (simp [Addr.add]))⟩⟩
theorem isInts_lit1 (w : World) : IsInts .i64 (w.alloc (.cells #[.int .i64 0] 3)) (some ⟨w.heap.size, 0, none⟩) 1 [0] :=
  ⟨rfl, by decide, fun i hi => by (match i, hi with | 0, _ => decide), fun _ => ⟨_, rfl, fun i hi => by (match i, hi with | 0, _ => (simp [Addr.add]))⟩⟩
theorem Same_n (L : List Int) (n : Nat) (hn : L.length = n) (a b : Option Addr) (c d : Nat) (w : World) (ha : IsInts .i64 w a n L) (hb : IsInts .i64 w b n L) :
    Calls Try.prog 17 #[.slice a n c, .slice b n d] w fun e w' => e = .returned (.bool true) ∧ Below w.heap.size w w' := by
  subst hn
  exact Same_yes L a b c d w ha hb
theorem alive_any (w : World) : Calls Try.prog 11 #[] w fun e w' => e = .returned (.bool true) ∧ Below w.heap.size w w' := by
  go_enter Try.func11, Try.ntmps11
  go_wp2_with (first
    | (go_at_call 10; ((with_reducible refine (l1 _).mono ?_)); rintro e w1 ⟨rfl, hb1⟩)
    | (go_at_call 12; ((with_reducible refine (l2 _).mono ?_)); rintro e w2 ⟨rfl, hb2⟩)
    | (go_at_call 12; ((with_reducible refine (l3 _).mono ?_)); rintro e w3 ⟨rfl, hb3⟩)
    | (go_at_call 12; ((with_reducible refine (l4 _).mono ?_)); rintro e w4 ⟨rfl, hb4⟩)
    | (go_at_call 18; ((with_reducible refine (l5 _).mono ?_)); rintro e w5 ⟨a5, c5, rfl, hi, hb5⟩; have hi5 : IsInts .i64 w5 a5 2 [0, 2] := hi; clear hi)
    | (go_at_call 20; ((with_reducible refine (l6 _).mono ?_)); rintro e w6 ⟨a6, c6, rfl, hi, hb6⟩; have hi6 : IsInts .i64 w6 a6 1 [0] := hi; clear hi)
    | (go_at_call 17; ((with_reducible refine (Same_n [0, 2] 2 rfl _ _ _ _ _ (isInts_alloc hi5 _) (isInts_lit2 _)).mono ?_)); rintro e w7 ⟨rfl, hb7⟩)
    | (go_at_call 17; ((with_reducible refine (Same_n [0] 1 rfl _ _ _ _ _ (isInts_alloc hi6 _) (isInts_lit1 _)).mono ?_)); rintro e w8 ⟨rfl, hb8⟩)
    | (go_at_call 15; ((with_reducible refine (l7 _).mono ?_)); rintro e w9 ⟨rfl, hb9⟩))
  go_ret
  exact ⟨rfl, by repeat (first | exact Below.refl _ _ | refine below_alloc ?_ _ | refine below_then ?_ (by assumption))⟩
end Go.Proofs.Ytepbnfekicdlpaa
