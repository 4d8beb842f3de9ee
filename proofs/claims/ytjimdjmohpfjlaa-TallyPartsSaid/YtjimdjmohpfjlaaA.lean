/-
  The functions of the tally and of its reference, each under its contract: what it gives back, and that nothing that was there has turned.
-/
import Derived.Test.YtjimdjmohpfjlaaProg
import Derived.Test.YtjimdjmohpfjlaaKit
namespace Go.Proofs.Ytjimdjmohpfjlaa
open Go.RowKit
set_option linter.unusedVariables false
set_option linter.unusedSimpArgs false
attribute [local go_sem] max2_int min2_int max_two min_two

theorem pair_eq (a b a' b' : Int) (w : World) : (Op.equalIn 10000 42 (.agg #[.int .i64 a, .int .i64 b]) (.agg #[.int .i64 a', .int .i64 b'])).run Try.prog w = .ok (a == a' && b == b') w :=
  run_equalIn_pair 9998 42 3 .i64 .i64 a b a' b' (by kernel_rfl) (by kernel_rfl) (fun _ => by kernel_rfl) (fun _ => by kernel_rfl)

def packW (s p : Int) : Int := if s ≤ 1099511627775 ∧ -1 ≤ p ∧ p ≤ 11 then 16 * s + (p + 1) else 0
def packB (s p : Int) : Bool := decide (s ≤ 1099511627775 ∧ -1 ≤ p ∧ p ≤ 11)
theorem bits_pack (s p : Int) (h0 : 0 ≤ s) (h1 : s ≤ 1099511627775) (h2 : -1 ≤ p) (h3 : p ≤ 11) : bits .or .u64 (s * 16) (p + 1) = 16 * s + (p + 1) := by
  rw [bits_join .u64 64 (by decide) (fun n h h' => IntWalk.u64_in n (by omega)) 4 _ _ (by omega) (by omega) (by omega) (by omega) (by omega) (by omega)]
  omega

theorem Pack_yes (s p : Int) (w : World) (h0 : 0 ≤ s) (h1 : s ≤ 1099511627775) (h2 : -1 ≤ p) (h3 : p ≤ 11) :
    Calls Try.prog 9 #[.agg #[.int .u64 s, .int .i64 p]] w fun e w' => e = .returned (.tuple #[.int .u64 (16 * s + (p + 1)), .bool true]) ∧ Below w.heap.size w w' := by
  have hb := bits_pack s p h0 h1 h2 h3
  have hq := pair_eq
  by_cases hp : p = -1
  · subst hp
    go_enter Try.func9, Try.ntmps9
    go_wp2
    go_ret2
    exact ⟨by simp at hb; simp [hb], ((Below.refl _ _).alloc (Nat.le_refl _) _).alloc (by simp) _⟩
  · have hp' : -1 < p := by omega
    go_enter Try.func9, Try.ntmps9
    go_wp2
    go_ret2
    exact ⟨by simp [hb], ((Below.refl _ _).alloc (Nat.le_refl _) _).alloc (by simp) _⟩
theorem Pack_no (s p : Int) (w : World) (h0 : 0 ≤ s) (h : ¬ (s ≤ 1099511627775 ∧ -1 ≤ p ∧ p ≤ 11)) :
    Calls Try.prog 9 #[.agg #[.int .u64 s, .int .i64 p]] w fun e w' => e = .returned (.tuple #[.int .u64 0, .bool false]) ∧ Below w.heap.size w w' := by
  have hq := pair_eq
  have hc : p < -1 ∨ 11 < p ∨ (-1 = p ∧ 1099511627775 < s) ∨ (-1 < p ∧ p ≤ 11 ∧ 1099511627775 < s) := by omega
  rcases hc with hc | hc | ⟨rfl, hc⟩ | ⟨hc1, hc2, hc⟩
  · have hc' : ¬ (11 < p) := by omega
    have hc2 : ¬ (-1 < p) := by omega
    have hc3 : ((-1 : Int) == p) = false := by simp; omega
    clear h hc
    go_enter Try.func9, Try.ntmps9
    go_wp2
    all_goals (go_ret2; exact ⟨rfl, ((Below.refl _ _).alloc (Nat.le_refl _) _).alloc (by simp) _⟩)
  · have hc3 : ((11 : Int) == p) = false := by simp; omega
    clear h
    go_enter Try.func9, Try.ntmps9
    go_wp2
    all_goals (go_ret2; exact ⟨rfl, ((Below.refl _ _).alloc (Nat.le_refl _) _).alloc (by simp) _⟩)
  · clear h
    by_cases hd : s ≤ 1099511627776
    · obtain rfl : s = 1099511627776 := by omega
      go_enter Try.func9, Try.ntmps9
      go_wp2
      all_goals (go_ret2; exact ⟨rfl, ((Below.refl _ _).alloc (Nat.le_refl _) _).alloc (by simp) _⟩)
    · have hd' : 1099511627776 < s := by omega
      go_enter Try.func9, Try.ntmps9
      go_wp2
      all_goals (go_ret2; exact ⟨rfl, ((Below.refl _ _).alloc (Nat.le_refl _) _).alloc (by simp) _⟩)
  · clear h
    by_cases hd : s ≤ 1099511627776
    · obtain rfl : s = 1099511627776 := by omega
      go_enter Try.func9, Try.ntmps9
      go_wp2
      all_goals (go_ret2; exact ⟨rfl, ((Below.refl _ _).alloc (Nat.le_refl _) _).alloc (by simp) _⟩)
    · have hd' : 1099511627776 < s := by omega
      go_enter Try.func9, Try.ntmps9
      go_wp2
      all_goals (go_ret2; exact ⟨rfl, ((Below.refl _ _).alloc (Nat.le_refl _) _).alloc (by simp) _⟩)

theorem and15 (x : Int) (h0 : 0 ≤ x) (h1 : x < 18446744073709551616) : bits .and .u64 x 15 = x % 16 :=
  bits_mask .u64 64 (by decide) (fun n h h' => IntWalk.u64_in n (by omega)) 4 (by decide) x h0 (by omega)

theorem Unpack_any (x : Int) (w : World) (h0 : 0 ≤ x) (h1 : x < 18446744073709551616) :
    Calls Try.prog 12 #[.int .u64 x] w fun e w' => e = .returned (.agg #[.int .u64 (x / 16), .int .i64 (x % 16 - 1)]) ∧ Below w.heap.size w w' := by
  have hb := and15 x h0 h1
  go_enter Try.func12, Try.ntmps12
  go_wp2
  refine bodyPost_ret (v := .agg #[.int .u64 (x / 16), .int .i64 (x % 16 - 1)]) (by simp [results, Try.results12, go_sem]) rfl ⟨rfl, below_alloc (Below.refl _ _) _⟩
theorem RUnpack_any (x : Int) (w : World) (h0 : 0 ≤ x) (h1 : x < 18446744073709551616) :
    Calls Try.prog 14 #[.int .u64 x] w fun e w' => e = .returned (.agg #[.int .u64 (x / 16), .int .i64 (x % 16 - 1)]) ∧ Below w.heap.size w w' := by
  go_enter Try.func14, Try.ntmps14
  go_wp2
  refine bodyPost_ret (v := .agg #[.int .u64 (x / 16), .int .i64 (x % 16 - 1)]) (by simp [results, Try.results14, go_sem]) rfl ⟨rfl, below_alloc (Below.refl _ _) _⟩
theorem Settled_any (x : Int) (w : World) (h0 : 0 ≤ x) (h1 : x < 18446744073709551616) :
    Calls Try.prog 13 #[.int .u64 x] w fun e w' => e = .returned (.int .u64 (x / 16 * 16)) ∧ Below w.heap.size w w' := by
  go_enter Try.func13, Try.ntmps13
  go_wp2
  go_ret
  exact ⟨rfl, Below.refl _ _⟩
theorem RSettled_any (x : Int) (w : World) (h0 : 0 ≤ x) (h1 : x < 18446744073709551616) :
    Calls Try.prog 15 #[.int .u64 x] w fun e w' => e = .returned (.int .u64 (x / 16 * 16)) ∧ Below w.heap.size w w' := by
  have e : x - x % 16 = x / 16 * 16 := by omega
  go_enter Try.func15, Try.ntmps15
  go_wp2
  go_ret
  exact ⟨by simp [e], Below.refl _ _⟩
def pastB (n s : Int) : Bool := decide (0 < n ∧ n ≤ s)
theorem Past_any (n s : Int) (w : World) (h0 : 0 ≤ n) :
    Calls Try.prog 18 #[.int .u64 n, .int .u64 s] w fun e w' => e = .returned (.bool (pastB n s)) ∧ Below w.heap.size w w' := by
  by_cases hn : n = 0
  · subst hn
    go_enter Try.func18, Try.ntmps18
    go_wp2
    go_ret
    exact ⟨by simp [pastB], Below.refl _ _⟩
  · have hb : (n != 0) = true := by simpa using hn
    have e : pastB n s = decide (n ≤ s) := by unfold pastB; simp; omega
    rw [e]
    clear e
    go_enter Try.func18, Try.ntmps18
    go_wp2
    go_ret
    exact ⟨rfl, Below.refl _ _⟩
theorem RPast_any (n s : Int) (w : World) (h0 : 0 ≤ n) :
    Calls Try.prog 19 #[.int .u64 n, .int .u64 s] w fun e w' => e = .returned (.bool (pastB n s)) ∧ Below w.heap.size w w' := by
  by_cases hn : n = 0
  · subst hn
    go_enter Try.func19, Try.ntmps19
    go_wp2
    go_ret
    exact ⟨by simp [pastB], Below.refl _ _⟩
  · have hb : 0 < n := by omega
    have e : pastB n s = decide (n ≤ s) := by unfold pastB; simp; omega
    rw [e]
    clear e
    go_enter Try.func19, Try.ntmps19
    go_wp2
    go_ret
    exact ⟨rfl, Below.refl _ _⟩
theorem RPack_yes (s p : Int) (w : World) (h0 : 0 ≤ s) (h1 : s ≤ 1099511627775) (h2 : -1 ≤ p) (h3 : p ≤ 11) :
    Calls Try.prog 10 #[.agg #[.int .u64 s, .int .i64 p]] w fun e w' => e = .returned (.tuple #[.int .u64 (16 * s + (p + 1)), .bool true]) ∧ Below w.heap.size w w' := by
  go_enter Try.func10, Try.ntmps10
  go_wp2
  go_ret2
  exact ⟨rfl, below_alloc (Below.refl _ _) _⟩
theorem RPack_no (s p : Int) (w : World) (h0 : 0 ≤ s) (h : ¬ (s ≤ 1099511627775 ∧ -1 ≤ p ∧ p ≤ 11)) :
    Calls Try.prog 10 #[.agg #[.int .u64 s, .int .i64 p]] w fun e w' => e = .returned (.tuple #[.int .u64 0, .bool false]) ∧ Below w.heap.size w w' := by
  by_cases c1 : 1099511627775 < s
  · clear h
    go_enter Try.func10, Try.ntmps10
    go_wp2
    go_ret2
    exact ⟨rfl, below_alloc (Below.refl _ _) _⟩
  · by_cases c2 : p < -1
    · clear h
      go_enter Try.func10, Try.ntmps10
      go_wp2
      go_ret2
      exact ⟨rfl, below_alloc (Below.refl _ _) _⟩
    · have c3 : 11 < p := by omega
      clear h
      go_enter Try.func10, Try.ntmps10
      go_wp2
      go_ret2
      exact ⟨rfl, below_alloc (Below.refl _ _) _⟩
end Go.Proofs.Ytjimdjmohpfjlaa
