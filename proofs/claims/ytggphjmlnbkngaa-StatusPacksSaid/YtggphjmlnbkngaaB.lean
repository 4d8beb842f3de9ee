/-
  Parts of words: the closure that tells one, each under its contract.
-/
import Derived.Test.YtggphjmlnbkngaaA
import Derived.Test.YtggphjmlnbkngaaO
namespace Go.Proofs.Ytggphjmlnbkngaa
open Go.RowKit
set_option linter.unusedVariables false
set_option linter.unusedSimpArgs false
theorem part_any (f m : Int) (w : World) : Calls Try.prog 29 #[.int .i64 f, .int .i64 m] w fun e w' =>
    e = .returned (.func (.func 34) #[] #[.pointer (some ⟨w.heap.size, 0, none⟩), .pointer (some ⟨w.heap.size + 1, 0, none⟩)]) ∧ w' = (w.alloc (.cells #[.int .i64 f] 3)).alloc (.cells #[.int .i64 m] 3) := by
  have hmf : ∀ (fn : Fn) (first cap : Array Value) (w : World), (Instr.makeFunc fn first cap).run Try.prog w = .ok (.func fn first cap) w := fun _ _ _ _ => rfl
  go_enter Try.func29, Try.ntmps29
  go_wp2
  go_ret
  exact ⟨rfl, rfl⟩
theorem part_val (x f m : Nat) (hx : x < 18446744073709551616) (hm : m < 33) :
    wrap64 (bits .and .u64 ((x : Int) / (pw f : Int)) (IntKind.u64.wrap (IntKind.u64.wrap (pw m : Int) - 1))) = ((numW x f m : Nat) : Int) := by
  have h1 := pw_pos m
  have h2 : pw m ≤ 4294967296 := by
    have : pw m ≤ 2 ^ 32 := Nat.pow_le_pow_right (by omega) (by omega)
    omega
  have h3 := numW_lt x f m
  rw [IntWalk.u64_in _ (show 0 ≤ (pw m : Int) ∧ (pw m : Int) ≤ 18446744073709551615 by omega), IntWalk.u64_in _ (show 0 ≤ (pw m : Int) - 1 ∧ (pw m : Int) - 1 ≤ 18446744073709551615 by omega)]
  have e1 : ((x : Int) / (pw f : Int)) = ((x / pw f : Nat) : Int) := (Int.natCast_ediv _ _).symm
  have e2 : ((pw m : Nat) : Int) - 1 = 2 ^ m - 1 := by simp [pw_eq]
  have h4 : x / pw f ≤ x := Nat.div_le_self _ _
  have e3 : ((x / pw f : Nat) : Int) % 2 ^ m = ((numW x f m : Nat) : Int) := by
    unfold numW
    rw [Int.natCast_emod]
    simp [pw_eq]
  rw [e1, e2]
  generalize x / pw f = q at *
  rw [mask64 m (by omega) _ (by omega) (by omega)]
  rw [e3]
  exact IntWalk.wrap64_in _ (by omega)
theorem read_any (x f m : Nat) (w : World) (g h : Nat) (hx : x < 18446744073709551616) (hf : f < 64) (hm : m < 33) (c1 : w.cell? ⟨g, 0, none⟩ = some (.int .i64 (f : Int))) (c2 : w.cell? ⟨h, 0, none⟩ = some (.int .i64 (m : Int))) :
    Calls Try.prog 34 #[.int .u64 (x : Int), .pointer (some ⟨g, 0, none⟩), .pointer (some ⟨h, 0, none⟩)] w fun e w' => e = .returned (.int .i64 (numW x f m : Int)) ∧ Below w.heap.size w w' := by
  have h1 := pw_pos f
  have h2 := pw_pos m
  have h3 : (2 : Int) ^ m = (pw m : Int) := by simp [pw_eq]
  have h4 : (2 : Int) ^ f = (pw f : Int) := by simp [pw_eq]
  go_enter Try.func34, Try.ntmps34
  go_wp2
  go_quiet (fail)
  have hv := part_val x f m hx hm
  generalize wrap64 (bits .and .u64 ((x : Int) / (pw f : Int)) (IntKind.u64.wrap (IntKind.u64.wrap (pw m : Int) - 1))) = v at *
  subst hv
  go_wp2
  go_ret
  exact ⟨rfl, below_drewN (Below.refl _ _) _⟩
/-- A value that is such a closure, its two boxes laid. -/
def IsPart (f m : Int) (v : Value) (w : World) : Prop := ∃ g h : Nat, v = .func (.func 34) #[] #[.pointer (some ⟨g, 0, none⟩), .pointer (some ⟨h, 0, none⟩)] ∧ w.cell? ⟨g, 0, none⟩ = some (.int .i64 f) ∧ w.cell? ⟨h, 0, none⟩ = some (.int .i64 m)
theorem IsPart.keep {f m : Int} {v : Value} {w w' : World} (h : IsPart f m v w) (hb : Below w.heap.size w w') : IsPart f m v w' := by
  obtain ⟨g, k, rfl, c1, c2⟩ := h
  exact ⟨g, k, rfl, by rw [hb.cell (World.block_lt_of_cell? w _ c1)]; exact c1, by rw [hb.cell (World.block_lt_of_cell? w _ c2)]; exact c2⟩
theorem part_is (f m : Int) (w : World) : Calls Try.prog 29 #[.int .i64 f, .int .i64 m] w fun e w' => ∃ v, e = .returned v ∧ IsPart f m v w' ∧ Below w.heap.size w w' := by
  refine (part_any f m w).mono ?_
  rintro e w' ⟨rfl, rfl⟩
  refine ⟨_, rfl, ⟨_, _, rfl, ?_, ?_⟩, below_alloc (below_alloc (Below.refl _ _) _) _⟩
  · exact blk_cell (blk_alloc (blk_new w (.cells #[.int .i64 f] 3)) (.cells #[.int .i64 m] 3)) 0
  · simp
/-- What the operations of 'is' leave. -/
def isΦ (x p : Nat) : Nat → Value → World → Prop
  | 0, v, _ => v = .int .i64 (p : Int)
  | 1, v, w => IsPart (p : Int) 1 v w
  | 2, v, _ => v = .int .u64 (x : Int)
  | 3, v, _ => v = .int .i64 (numW x p 1 : Int)
  | 4, v, _ => v = .bool (x.testBit p)
  | 5, v, _ => v = .bool (x.testBit p)
  | _, _, _ => True
theorem bit1 (x p : Nat) : ((numW x p 1 : Int) == 1) = x.testBit p := by
  unfold numW
  rw [Nat.testBit_eq_decide_div_mod_eq, Bool.eq_iff_iff, show pw 1 = 2 from rfl, pw_eq]
  generalize x / 2 ^ p = q
  simp
  omega
theorem is_any (x p : Nat) (w : World) (g : Nat) (hx : x < 18446744073709551616) (hp : p < 64) (c1 : w.cell? ⟨g, 0, none⟩ = some (.int .u64 (x : Int))) :
    Calls Try.prog 28 #[.int .i64 (p : Int), .pointer (some ⟨g, 0, none⟩)] w fun e w' => e = .returned (.bool (x.testBit p)) ∧ Below w.heap.size w w' := by
  go_enter Try.func28, Try.ntmps28
  go_wp2_with fail
  rename_i Q' K hK
  refine wp_region_kept (n := 9) [(0, .int .i64 (p : Int)), (1, .pointer (some ⟨g, 0, none⟩))] (isΦ x p) (fun w' => Below w.heap.size w w') (fun w w' => Below w.heap.size w w') rfl (by kernel_rfl) (by kernel_rfl) ?_ ?_ ?_ ?_ (below_drew (Below.refl _ _))
  · intro i v w w' hb h
    match i, h with
    | 0, h => exact h
    | 1, h => exact IsPart.keep h hb
    | 2, h => exact h
    | 3, h => exact h
    | 4, h => exact h
    | 5, h => exact h
    | n + 6, h => trivial
  · intro i o hi a w' hk hR hd
    have k0 : a.tmps.getD 0 undef = .int .i64 (p : Int) := hk.2.2 (0, .int .i64 (p : Int)) (by simp)
    have k1 : a.tmps.getD 1 undef = .pointer (some ⟨g, 0, none⟩) := hk.2.2 (1, .pointer (some ⟨g, 0, none⟩)) (by simp)
    have c1' : w'.cell? ⟨g, 0, none⟩ = some (.int .u64 (x : Int)) := by rw [hR.cell (World.block_lt_of_cell? _ _ c1)]; exact c1
    clear hk
    match i, hi with
    | 0, hi =>
      obtain rfl := Option.some.inj (show some _ = some o from hi)
      exact ⟨_, rfl, nofun, Below.refl _ _, hR, k0⟩
    | 1, hi =>
      obtain rfl := Option.some.inj (show some _ = some o from hi)
      have d0 : a.tmps.getD 4 undef = .int .i64 (p : Int) := hd ⟨0, .data⟩ (by simp) rfl
      clear hd hi
      simp only [Array.getD_eq_getD_getElem?] at d0
      unfold Oper.wp
      simp [execOp, Act.eval, go_sem, d0]
      refine (part_is _ _ _).mono ?_
      rintro e w1 ⟨v, rfl, hv, hb⟩
      exact ⟨v, rfl, hb, below_then hR hb, hv⟩
    | 2, hi =>
      obtain rfl := Option.some.inj (show some _ = some o from hi)
      clear hd hi
      simp only [Array.getD_eq_getD_getElem?] at k1
      unfold Oper.wp
      simp [execOp, Act.eval, go_sem, k1, c1']
      exact ⟨_, rfl, Below.refl _ _, hR, rfl⟩
    | 3, hi =>
      obtain rfl := Option.some.inj (show some _ = some o from hi)
      have d1 : IsPart (p : Int) 1 (a.tmps.getD 5 undef) w' := hd ⟨1, .data⟩ (by simp) rfl
      have d2 : a.tmps.getD 6 undef = .int .u64 (x : Int) := hd ⟨2, .data⟩ (by simp) rfl
      clear hd hi
      obtain ⟨g1, g2, e1, c2, c3⟩ := d1
      simp only [Array.getD_eq_getD_getElem?] at e1 d2
      unfold Oper.wp
      simp [execOp, Act.eval, go_sem, e1, d2]
      refine (read_any x p 1 _ _ _ hx hp (by omega) c2 c3).mono ?_
      rintro e w1 ⟨rfl, hb⟩
      exact ⟨_, rfl, hb, below_then hR hb, rfl⟩
    | 4, hi =>
      obtain rfl := Option.some.inj (show some _ = some o from hi)
      have d3 : a.tmps.getD 7 undef = .int .i64 (numW x p 1 : Int) := hd ⟨3, .data⟩ (by simp) rfl
      clear hd hi
      simp only [Array.getD_eq_getD_getElem?] at d3
      unfold Oper.wp
      simp [execOp, Act.eval, go_sem, d3]
      refine ⟨_, rfl, Below.refl _ _, hR, ?_⟩
      show Value.bool _ = Value.bool _
      rw [bit1]
    | 5, hi =>
      obtain rfl := Option.some.inj (show some _ = some o from hi)
      have d4 : a.tmps.getD 8 undef = .bool (x.testBit p) := hd ⟨4, .data⟩ (by simp) rfl
      exact ⟨_, rfl, nofun, Below.refl _ _, hR, d4⟩
    | n + 6, hi => simp at hi
  · intro a w' hk hR hΦ
    have d5 : a.tmps.getD 3 undef = .bool (x.testBit p) := hΦ 5 (by simp)
    refine hK _ _ (wp_ret ?_)
    refine bodyPost_ret (results_tmp (by rfl) _ _ _) hk.1 ⟨?_, hR⟩
    rw [← d5]
  · exact ⟨rfl, rfl, by simp⟩
end Go.Proofs.Ytggphjmlnbkngaa
