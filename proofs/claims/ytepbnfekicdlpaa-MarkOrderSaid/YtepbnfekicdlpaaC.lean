/-
  The marks of a kind, one by one: the iterator, and the row that collects all but one.
-/
import Derived.Test.YtepbnfekicdlpaaB
import Derived.RangeFuncBox
import Derived.RangeFuncLeaves
import Derived.RangeFuncNested
import Derived.RangeFuncBound
import Derived.RangeFuncCalls
import Derived.Shelf.Abstract
import Derived.OwnWalkIn
import Derived.TacticsInMore
import Derived.LoopNIn
import Derived.LoopIn
import Derived.Maps.AppendAt
namespace Go.Proofs.Ytepbnfekicdlpaa
open Go.RowKit Go.Shelf
set_option linter.unusedVariables false
set_option linter.unusedSimpArgs false
attribute [local go_sem] Oper.semAt_some
/-- The slots below m that are marked. -/
def upto (x : Nat) (k : Int) (m : Nat) : List Int := ((List.range m).filter fun i : Nat => hasW x k (i : Int)).map fun i : Nat => (i : Int)
theorem upto_hit {x : Nat} {k : Int} {m : Nat} (h : hasW x k (m : Int) = true) : upto x k (m + 1) = upto x k m ++ [(m : Int)] := by
  simp [upto, List.range_succ, List.filter_append, h]
theorem upto_miss {x : Nat} {k : Int} {m : Nat} (h : hasW x k (m : Int) = false) : upto x k (m + 1) = upto x k m := by
  simp [upto, List.range_succ, List.filter_append, h]
theorem upto_le (x : Nat) (k : Int) (m : Nat) : (upto x k m).length ≤ m := by
  unfold upto
  rw [List.length_map]
  exact Nat.le_trans (List.length_filter_le _ _) (by simp)
/-- Two blocks lie as they lay. -/
def K2 (Bw Bk : Nat) (W W' : World) : Prop := W'.heap[Bw]? = W.heap[Bw]? ∧ W'.heap[Bk]? = W.heap[Bk]?
theorem K2.trans {Bw Bk : Nat} {A B C : World} (h : K2 Bw Bk A B) (k : K2 Bw Bk B C) : K2 Bw Bk A C := ⟨k.1.trans h.1, k.2.trans h.2⟩
theorem K2.of_below {Bw Bk : Nat} {A B : World} (h : Below A.heap.size A B) (h1 : Bw < A.heap.size) (h2 : Bk < A.heap.size) : K2 Bw Bk A B := ⟨h.block _ h1, h.block _ h2⟩
set_option maxRecDepth 100000 in
set_option maxHeartbeats 1000000 in
theorem all1 (l Bw Bk : Nat) (x : Nat) (hx : x < 18446744073709551616) (k : Int) (J Jx : List Int → World → Prop)
    (hY : ∀ pre y W, J pre W → pre.length < 12 → YieldAt Fence.wide 2 Try.prog l #[.int .i64 y] W fun e W' =>
      (e = .returned (.bool true) ∧ J (pre ++ [y]) W' ∧ K2 Bw Bk W W') ∨ (e = .returned (.bool false) ∧ Jx (pre ++ [y]) W'))
    (hJ : ∀ pre W W', J pre W → Below W.heap.size W W' → J pre W')
    (W : World) (hw : Boxed W Bw 22 (.int .u64 (x : Int))) (hk : Boxed W Bk 3 (.int .i64 k)) (h0 : J [] W) :
    CallsIn Fence.wide 3 Try.prog 27 #[.func (.yield l) #[] #[], .pointer (some ⟨Bw, 0, none⟩), .pointer (some ⟨Bk, 0, none⟩)] W fun e W' => (∃ v, e = .returned v) ∧
      ((∃ ys, ys = upto x k 12 ∧ J ys W') ∨ (∃ pre, Jx pre W')) := by
  refine callsIn_of_wp Try.func27 rfl trivial ?_ rfl
  simp only [Try.ntmps27, List.size_toArray, List.length_cons, List.length_nil, Nat.reduceAdd, Nat.reduceSub, Array.replicate_succ, Array.replicate_zero, List.push_toArray, List.append_toArray, List.nil_append, List.cons_append]
  gi_wp2
  gi_loopw [5] (fun p wr => ∃ m : Nat, m ≤ 12 ∧ p = .int .i64 (m : Int) ∧ J (upto x k m) wr ∧ Boxed wr Bw 22 (.int .u64 (x : Int)) ∧ Boxed wr Bk 3 (.int .i64 k)) (fun p _ => 12 - (intOf p).toNat)
  case atStart => exact ⟨0, by omega, rfl, h0, hw, hk⟩
  case round =>
    obtain ⟨m, hm, rfl, hJs, hBw, hBk⟩ := hrel
    have hw' := hBw.cell
    have hk' := hBk.cell
    by_cases hlt : m < 12
    · cases hb : hasW x k (m : Int) with
      | true =>
        gi_wp2_with (refine ⟨trivial, ?_⟩; gi_at_call 12; refine (callsIn_wide.2 (Has_any x _ _ _ hx)).mono ?_; rintro e w1 ⟨rfl, hb1⟩; obtain ⟨fn, tmps, assign, body, hy, hR⟩ := hY _ (m : Int) w1 (hJ _ _ _ hJs hb1) (by have := upto_le x k m; omega))
        refine hR.mono ?_
        rintro e W3 (⟨rfl, hJ3, hk3⟩ | ⟨rfl, hJx3⟩)
        · gi_wp2
          go_roundw
          case rel => exact ⟨m + 1, by omega, by go_num, by rw [upto_hit hb]; exact hJ3, (hk3.1.trans (hb1.block _ hBw.lt)).trans hBw, (hk3.2.trans (hb1.block _ hBk.lt)).trans hBk⟩
          case measure => simp [intOf]; omega
        · gi_wp2
          refine bodyPost_ret (results_none rfl _ _ _) rfl ?_
          exact ⟨⟨_, rfl⟩, .inr ⟨_, hJx3⟩⟩
      | false =>
        gi_wp2_with (refine ⟨trivial, ?_⟩; gi_at_call 12; refine (callsIn_wide.2 (Has_any x _ _ _ hx)).mono ?_; rintro e w1 ⟨rfl, hb1⟩)
        all_goals (refine ⟨fun _ h => (by cases h), ?_⟩; gi_wp2)
        all_goals go_roundw
        all_goals first
          | exact ⟨m + 1, by omega, by go_num, by rw [upto_miss hb]; exact hJ _ _ _ hJs hb1, (hb1.block _ hBw.lt).trans hBw, (hb1.block _ hBk.lt).trans hBk⟩
          | (simp [intOf]; omega)
    · obtain rfl : m = 12 := by omega
      gi_wp2
      go_end0
      exact ⟨⟨_, rfl⟩, .inl ⟨_, rfl, hJs⟩⟩
/-- The iterator's word. -/
theorem all_stops (x : Nat) (hx : x < 18446744073709551616) (k : Int) (Bw Bk : Nat) (w : World) (hw : Boxed w Bw 22 (.int .u64 (x : Int))) (hk : Boxed w Bk 3 (.int .i64 k)) :
    SeqStopsK Fence.wide 3 Try.prog 27 #[.pointer (some ⟨Bw, 0, none⟩), .pointer (some ⟨Bk, 0, none⟩)] (fun y : Int => #[Value.int .i64 y]) (K2 Bw Bk) (fun ys => ys = upto x k 12) (fun _ => True) 12 w := by
  intro l J Jx W hW hJ _ hY h0
  refine (all1 l Bw Bk x hx k J Jx hY (fun pre A B hs hb => hJ pre A B none hs ⟨hb.os, hb.tape, hb.output, hb.size, fun i hi _ => hb.block i hi⟩ (fun r e => by cases e)) W ((hW.block _ hw.lt).trans hw) ((hW.block _ hk.lt).trans hk) h0).mono ?_
  rintro e W' ⟨hv, h | ⟨pre, hp⟩⟩
  · exact ⟨hv, .inl h⟩
  · exact ⟨hv, .inr ⟨pre, trivial, hp⟩⟩
end Go.Proofs.Ytepbnfekicdlpaa
