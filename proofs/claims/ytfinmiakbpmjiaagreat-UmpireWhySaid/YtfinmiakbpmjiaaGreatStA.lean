/-
  The words of a status.
-/
import Derived.Test.YtfinmiakbpmjiaaGreatProg
import Derived.Test.YtfinmiakbpmjiaaGreatKit
set_option linter.unusedSimpArgs false
set_option linter.unusedVariables false
set_option maxRecDepth 100000
namespace Go.Proofs.YtfinmiakbpmjiaaGreat.St
open Go.Proofs.YtfinmiakbpmjiaaGreat
open Go.RowKit
theorem Hid.mk' {p : Prop} (h : p) : Hid p := h
def plc (k s : Int) : Option Nat := if 0 ≤ k ∧ k ≤ 1 ∧ 0 ≤ s ∧ s < 12 then some (12 * k + s).toNat else none
def bitOf (k s : Int) : Nat := match plc k s with | some i => 2 ^ i | none => 0
theorem of_none {k s : Int} (h : ¬ (0 ≤ k ∧ k ≤ 1 ∧ 0 ≤ s ∧ s < 12)) : plc k s = none ∧ bitOf k s = 0 := by
 have e : plc k s = none := by unfold plc; rw [if_neg h]
 exact ⟨e, by unfold bitOf; rw [e]⟩
theorem of_some {k s : Int} (h : 0 ≤ k ∧ k ≤ 1 ∧ 0 ≤ s ∧ s < 12) : plc k s = some (12 * k + s).toNat ∧ bitOf k s = 2 ^ (12 * k + s).toNat := by
 have e : plc k s = some (12 * k + s).toNat := by unfold plc; rw [if_pos h]
 exact ⟨e, by unfold bitOf; rw [e]⟩
theorem wrap_cast (n : Nat) (h : n < 18446744073709551616) : IntKind.u64.wrap (n : Int) = (n : Int) := IntWalk.u64_in _ (by omega)
theorem wrap_pow (n : Nat) (h : n < 64) : IntKind.u64.wrap ((2 : Int) ^ n) = ((2 ^ n : Nat) : Int) := by
 have e : ((2 : Int) ^ n) = ((2 ^ n : Nat) : Int) := by simp
 rw [e]
 exact wrap_cast _ (lt_pow h)
theorem bitOf_lt (k s : Int) : bitOf k s < 18446744073709551616 := by
 by_cases h : 0 ≤ k ∧ k ≤ 1 ∧ 0 ≤ s ∧ s < 12
 ·rw [(of_some h).2]; exact lt_pow (by omega)
 ·rw [(of_none h).2]; omega
theorem of_any (k s : Int) (w : World) :
  Calls Tryz.prog 303 #[.int .i64 k, .int .i64 s] w fun e w' => e = .returned (.int .u64 (bitOf k s)) ∧ Below w.heap.size w w' := by
 by_cases h : 0 ≤ k ∧ k ≤ 1 ∧ 0 ≤ s ∧ s < 12
 ·obtain ⟨_, h0⟩ := of_some h
  obtain ⟨h1, h2, h3, h4⟩ := h
  have hp := wrap_pow (12 * k + s).toNat (by omega)
  have hp' := wrap_pow (k * 12 + s).toNat (by omega)
  have hp2 := wrap_cast (2 ^ (k * 12 + s).toNat) (lt_pow (by omega))
  have hfin : Hid (((2 ^ (k * 12 + s).toNat : Nat) : Int) = ((bitOf k s : Nat) : Int)) := by
   show _ = _
   rw [h0, show k * 12 + s = 12 * k + s by omega]
  have h5 : 0 ≤ k * 12 + s := by omega
  have h6 : k * 12 + s < 24 := by omega
  clear h0
  go_enter Tryz.func303, Tryz.ntmps303
  go_wp2
  go_ret
  exact ⟨by rw [← hfin.out]; simp, Below.refl _ _⟩
 ·rw [(of_none h).2]
  by_cases c1 : k < 0
  ·clear h
   go_enter Tryz.func303, Tryz.ntmps303
   go_wp2
   go_ret
   exact ⟨rfl, Below.refl _ _⟩
  ·by_cases c2 : 1 < k
   ·clear h
    go_enter Tryz.func303, Tryz.ntmps303
    go_wp2
    go_ret
    exact ⟨rfl, Below.refl _ _⟩
   ·by_cases c3 : s < 0
    ·clear h
     go_enter Tryz.func303, Tryz.ntmps303
     go_wp2
     go_ret
     exact ⟨rfl, Below.refl _ _⟩
    ·have c4 : 12 ≤ s := by omega
     clear h
     go_enter Tryz.func303, Tryz.ntmps303
     go_wp2
     go_ret
     exact ⟨rfl, Below.refl _ _⟩
def withW (w : Nat) (k s : Int) : Nat := w ||| bitOf k s
def hasW (w : Nat) (k s : Int) : Bool := match plc k s with | some i => w.testBit i | none => false
theorem hasW_and (w : Nat) (k s : Int) : decide (0 < w &&& bitOf k s) = hasW w k s := by
 by_cases h : 0 ≤ k ∧ k ≤ 1 ∧ 0 ≤ s ∧ s < 12
 ·unfold hasW; rw [(of_some h).2, (of_some h).1]; exact and_pow_pos _ _
 ·unfold hasW; rw [(of_none h).2, (of_none h).1]; simp
theorem With_any (x : Nat) (k s : Int) (w : World) (hx : x < 18446744073709551616) :
  Calls Tryz.prog 304 #[.int .u64 x, .int .i64 k, .int .i64 s] w fun e w' => e = .returned (.int .u64 (withW x k s)) ∧ Below w.heap.size w w' := by
 have hg := go_or x (bitOf k s) hx (bitOf_lt k s)
 go_enter Tryz.func304, Tryz.ntmps304
 go_wp2_with (go_at_call 303; refine (of_any _ _ _).mono ?_; rintro e w1 ⟨rfl, hb1⟩)
 go_ret
 exact ⟨rfl, below_then (Below.refl _ _) hb1⟩
theorem Has_any (x : Nat) (k s : Int) (w : World) (hx : x < 18446744073709551616) :
  Calls Tryz.prog 296 #[.int .u64 x, .int .i64 k, .int .i64 s] w fun e w' => e = .returned (.bool (hasW x k s)) ∧ Below w.heap.size w w' := by
 have hg := go_and x (bitOf k s) hx (bitOf_lt k s)
 have hh : Hid ((((x &&& bitOf k s : Nat) : Int) != 0) = hasW x k s) := by
  show _ = _
  rw [← hasW_and]
  generalize x &&& bitOf k s = q
  rw [Bool.eq_iff_iff]
  simp
  omega
 go_enter Tryz.func296, Tryz.ntmps296
 go_wp2_with (go_at_call 303; refine (of_any _ _ _).mono ?_; rintro e w1 ⟨rfl, hb1⟩)
 go_ret
 exact ⟨by rw [← hh.out]; simp, below_then (Below.refl _ _) hb1⟩
theorem bit_any (b : Bool) (w : World) : Calls Tryz.prog 199 #[.bool b] w fun e w' => e = .returned (.int .u64 (if b then 1 else 0)) ∧ Below w.heap.size w w' := by
 cases b
 ·go_enter Tryz.func199, Tryz.ntmps199
  go_wp2
  go_ret
  exact ⟨rfl, Below.refl _ _⟩
 ·go_enter Tryz.func199, Tryz.ntmps199
  go_wp2
  go_ret
  exact ⟨rfl, Below.refl _ _⟩
def numW (x f m : Nat) : Nat := x / pw f % pw m
theorem numW_lt (x f m : Nat) : numW x f m < pw m := Nat.mod_lt _ (Nat.two_pow_pos m)
theorem part_any (f m : Int) (w : World) : Calls Tryz.prog 109 #[.int .i64 f, .int .i64 m] w fun e w' =>
  e = .returned (.func (.func 139) #[] #[.pointer (some ⟨w.heap.size, 0, none⟩), .pointer (some ⟨w.heap.size + 1, 0, none⟩)]) ∧ w' = (w.alloc (.cells #[.int .i64 f] 3)).alloc (.cells #[.int .i64 m] 3) := by
 have hmf : ∀ (fn : Fn) (first cap : Array Value) (w : World), (Instr.makeFunc fn first cap).run Tryz.prog w = .ok (.func fn first cap) w := fun _ _ _ _ => rfl
 go_enter Tryz.func109, Tryz.ntmps109
 go_wp2
 go_ret
 exact ⟨rfl, rfl⟩
theorem part_val (x f m : Nat) (hx : x < 18446744073709551616) (hm : m < 33) :
  wrap64 (bits .and .u64 ((x : Int) / (pw f : Int)) (IntKind.u64.wrap (IntKind.u64.wrap (pw m : Int) - 1))) = ((numW x f m : Nat) : Int) := by
 have h1 := pw_pos m
 have h2 : pw m ≤ 4294967296 := by
  have : pw m ≤ 2 ^ 32 := Nat.pow_le_pow_right (by omega) (by omega)
  omega
 have h3 := numW_lt x f m
 rw [IntWalk.u64_in _ (show 0 ≤ (pw m : Int) ∧ (pw m : Int) ≤ 18446744073709551615 by omega), IntWalk.u64_in _ (show 0 ≤ (pw m : Int) - 1 ∧ (pw m : Int) - 1 ≤ 18446744073709551615 by omega)]
 have e1 : ((x : Int) / (pw f : Int)) = ((x / pw f : Nat) : Int) := (Int.natCast_ediv _ _).symm
 have e2 : ((pw m : Nat) : Int) - 1 = 2 ^ m - 1 := by simp [pw_eq]
 have h4 : x / pw f ≤ x := Nat.div_le_self _ _
 have e3 : ((x / pw f : Nat) : Int) % 2 ^ m = ((numW x f m : Nat) : Int) := by
  unfold numW
  rw [Int.natCast_emod]
  simp [pw_eq]
 rw [e1, e2]
 generalize x / pw f = q at *
 rw [mask64 m (by omega) _ (by omega) (by omega)]
 rw [e3]
 exact IntWalk.wrap64_in _ (by omega)
theorem read_any (x f m : Nat) (w : World) (g h : Nat) (hx : x < 18446744073709551616) (hf : f < 64) (hm : m < 33) (c1 : w.cell? ⟨g, 0, none⟩ = some (.int .i64 (f : Int))) (c2 : w.cell? ⟨h, 0, none⟩ = some (.int .i64 (m : Int))) :
  Calls Tryz.prog 139 #[.int .u64 (x : Int), .pointer (some ⟨g, 0, none⟩), .pointer (some ⟨h, 0, none⟩)] w fun e w' => e = .returned (.int .i64 (numW x f m : Int)) ∧ Below w.heap.size w w' := by
 have h1 := pw_pos f
 have h2 := pw_pos m
 have h3 : (2 : Int) ^ m = (pw m : Int) := by simp [pw_eq]
 have h4 : (2 : Int) ^ f = (pw f : Int) := by simp [pw_eq]
 go_enter Tryz.func139, Tryz.ntmps139
 go_wp2
 go_quiet (fail)
 have hv := part_val x f m hx hm
 generalize wrap64 (bits .and .u64 ((x : Int) / (pw f : Int)) (IntKind.u64.wrap (IntKind.u64.wrap (pw m : Int) - 1))) = v at *
 subst hv
 go_wp2
 go_ret
 exact ⟨rfl, below_drewN (Below.refl _ _) _⟩
def IsPart (f m : Int) (v : Value) (w : World) : Prop := ∃ g h : Nat, v = .func (.func 139) #[] #[.pointer (some ⟨g, 0, none⟩), .pointer (some ⟨h, 0, none⟩)] ∧ w.cell? ⟨g, 0, none⟩ = some (.int .i64 f) ∧ w.cell? ⟨h, 0, none⟩ = some (.int .i64 m)
theorem IsPart.keep {f m : Int} {v : Value} {w w' : World} (h : IsPart f m v w) (hb : Below w.heap.size w w') : IsPart f m v w' := by
 obtain ⟨g, k, rfl, c1, c2⟩ := h
 exact ⟨g, k, rfl, by rw [hb.cell (World.block_lt_of_cell? w _ c1)]; exact c1, by rw [hb.cell (World.block_lt_of_cell? w _ c2)]; exact c2⟩
theorem part_is (f m : Int) (w : World) : Calls Tryz.prog 109 #[.int .i64 f, .int .i64 m] w fun e w' => ∃ v, e = .returned v ∧ IsPart f m v w' ∧ Below w.heap.size w w' := by
 refine (part_any f m w).mono ?_
 rintro e w' ⟨rfl, rfl⟩
 refine ⟨_, rfl, ⟨_, _, rfl, ?_, ?_⟩, below_alloc (below_alloc (Below.refl _ _) _) _⟩
 ·exact blk_cell (blk_alloc (blk_new w (.cells #[.int .i64 f] 3)) (.cells #[.int .i64 m] 3)) 0
 ·simp
def isΦ (x p : Nat) : Nat → Value → World → Prop
 | 0, v, _ => v = .int .i64 (p : Int)
 | 1, v, w => IsPart (p : Int) 1 v w
 | 2, v, _ => v = .int .u64 (x : Int)
 | 3, v, _ => v = .int .i64 (numW x p 1 : Int)
 | 4, v, _ => v = .bool (x.testBit p)
 | 5, v, _ => v = .bool (x.testBit p)
 | _, _, _ => True
theorem bit1 (x p : Nat) : ((numW x p 1 : Int) == 1) = x.testBit p := by
 unfold numW
 rw [Nat.testBit_eq_decide_div_mod_eq, Bool.eq_iff_iff, show pw 1 = 2 from rfl, pw_eq]
 generalize x / 2 ^ p = q
 simp
 omega
theorem is_any (x p : Nat) (w : World) (g : Nat) (hx : x < 18446744073709551616) (hp : p < 64) (c1 : w.cell? ⟨g, 0, none⟩ = some (.int .u64 (x : Int))) :
  Calls Tryz.prog 108 #[.int .i64 (p : Int), .pointer (some ⟨g, 0, none⟩)] w fun e w' => e = .returned (.bool (x.testBit p)) ∧ Below w.heap.size w w' := by
 go_enter Tryz.func108, Tryz.ntmps108
 go_wp2_with fail
 rename_i Q' K hK
 refine wp_region_kept (n := 9) [(0, .int .i64 (p : Int)), (1, .pointer (some ⟨g, 0, none⟩))] (isΦ x p) (fun w' => Below w.heap.size w w') (fun w w' => Below w.heap.size w w') rfl (by kernel_rfl) (by kernel_rfl) ?_ ?_ ?_ ?_ (below_drew (Below.refl _ _))
 ·intro i v w w' hb h
  match i, h with
  | 0, h => exact h
  | 1, h => exact IsPart.keep h hb
  | 2, h => exact h
  | 3, h => exact h
  | 4, h => exact h
  | 5, h => exact h
  | n + 6, h => trivial
 ·intro i o hi a w' hk hR hd
  have k0 : a.tmps.getD 0 undef = .int .i64 (p : Int) := hk.2.2 (0, .int .i64 (p : Int)) (by simp)
  have k1 : a.tmps.getD 1 undef = .pointer (some ⟨g, 0, none⟩) := hk.2.2 (1, .pointer (some ⟨g, 0, none⟩)) (by simp)
  have c1' : w'.cell? ⟨g, 0, none⟩ = some (.int .u64 (x : Int)) := by rw [hR.cell (World.block_lt_of_cell? _ _ c1)]; exact c1
  clear hk
  match i, hi with
  | 0, hi =>
   obtain rfl := Option.some.inj (show some _ = some o from hi)
   exact ⟨_, rfl, nofun, Below.refl _ _, hR, k0⟩
  | 1, hi =>
   obtain rfl := Option.some.inj (show some _ = some o from hi)
   have d0 : a.tmps.getD 4 undef = .int .i64 (p : Int) := hd ⟨0, .data⟩ (by simp) rfl
   clear hd hi
   simp only [Array.getD_eq_getD_getElem?] at d0
   unfold Oper.wp
   simp [execOp, Act.eval, go_sem, d0]
   refine (part_is _ _ _).mono ?_
   rintro e w1 ⟨v, rfl, hv, hb⟩
   exact ⟨v, rfl, hb, below_then hR hb, hv⟩
  | 2, hi =>
   obtain rfl := Option.some.inj (show some _ = some o from hi)
   clear hd hi
   simp only [Array.getD_eq_getD_getElem?] at k1
   unfold Oper.wp
   simp [execOp, Act.eval, go_sem, k1, c1']
   exact ⟨_, rfl, Below.refl _ _, hR, rfl⟩
  | 3, hi =>
   obtain rfl := Option.some.inj (show some _ = some o from hi)
   have d1 : IsPart (p : Int) 1 (a.tmps.getD 5 undef) w' := hd ⟨1, .data⟩ (by simp) rfl
   have d2 : a.tmps.getD 6 undef = .int .u64 (x : Int) := hd ⟨2, .data⟩ (by simp) rfl
   clear hd hi
   obtain ⟨g1, g2, e1, c2, c3⟩ := d1
   simp only [Array.getD_eq_getD_getElem?] at e1 d2
   unfold Oper.wp
   simp [execOp, Act.eval, go_sem, e1, d2]
   refine (read_any x p 1 _ _ _ hx hp (by omega) c2 c3).mono ?_
   rintro e w1 ⟨rfl, hb⟩
   exact ⟨_, rfl, hb, below_then hR hb, rfl⟩
  | 4, hi =>
   obtain rfl := Option.some.inj (show some _ = some o from hi)
   have d3 : a.tmps.getD 7 undef = .int .i64 (numW x p 1 : Int) := hd ⟨3, .data⟩ (by simp) rfl
   clear hd hi
   simp only [Array.getD_eq_getD_getElem?] at d3
   unfold Oper.wp
   simp [execOp, Act.eval, go_sem, d3]
   refine ⟨_, rfl, Below.refl _ _, hR, ?_⟩
   show Value.bool _ = Value.bool _
   rw [bit1]
  | 5, hi =>
   obtain rfl := Option.some.inj (show some _ = some o from hi)
   have d4 : a.tmps.getD 8 undef = .bool (x.testBit p) := hd ⟨4, .data⟩ (by simp) rfl
   exact ⟨_, rfl, nofun, Below.refl _ _, hR, d4⟩
  | n + 6, hi => simp at hi
 ·intro a w' hk hR hΦ
  have d5 : a.tmps.getD 3 undef = .bool (x.testBit p) := hΦ 5 (by simp)
  refine hK _ _ (wp_ret ?_)
  refine bodyPost_ret (results_tmp (by rfl) _ _ _) hk.1 ⟨?_, hR⟩
  rw [← d5]
 ·exact ⟨rfl, rfl, by simp⟩
def partsV (x : Nat) : Array Value := #[.int .i64 (numW x 30 32 : Int), .int .i64 (numW x 27 3 : Int), .bool (x.testBit 26), .bool (x.testBit 25), .bool (x.testBit 24), .int .i64 (numW x 12 12 : Int), .int .i64 (numW x 0 12 : Int)]
structure But1 (rb : Nat) (w w' : World) : Prop where
 os : w'.os = w.os
 tape : w'.tape = w.tape
 output : w'.output = w.output
 size : w.heap.size ≤ w'.heap.size
 block : ∀ k, k < w.heap.size → k ≠ rb → w'.heap[k]? = w.heap[k]?
theorem But1.of {rb : Nat} {w w' : World} (h : Below w.heap.size w w') : But1 rb w w' := ⟨h.os, h.tape, h.output, h.size, fun k hk _ => h.block k hk⟩
theorem But1.trans {rb : Nat} {w w1 w2 : World} (h : But1 rb w w1) (k : But1 rb w1 w2) : But1 rb w w2 := ⟨k.os.trans h.os, k.tape.trans h.tape, k.output.trans h.output, Nat.le_trans h.size k.size, fun i hi hn => (k.block i (Nat.lt_of_lt_of_le hi h.size) hn).trans (h.block i hi hn)⟩
theorem But1.cell {rb g : Nat} {w w' : World} {v : Value} (h : But1 rb w w') (hn : g ≠ rb) (c : w.cell? ⟨g, 0, none⟩ = some v) : w'.cell? ⟨g, 0, none⟩ = some v := by
 have := h.block g (World.block_lt_of_cell? _ _ c) hn
 unfold World.cell? at *
 simpa [this] using c
theorem But1.set {rb : Nat} {w W : World} (h : But1 rb w W) (i : Nat) (v : Value) : But1 rb w (W.setCell ⟨rb, i, none⟩ v) := ⟨h.os, h.tape, h.output, by simpa using h.size, fun k hk hn => (Below.heap_setCell W ⟨rb, i, none⟩ v k hn).trans (h.block k hk hn)⟩
structure UnS (x rb : Nat) (w w' : World) : Prop where
 but : But1 rb w w'
 fin : w.heap[rb]? = some (.cells (partsV x) 154 (0, 0)) → w'.heap[rb]? = some (.cells (partsV x) 154 (0, 0))
theorem UnS.of {x rb : Nat} {w w' : World} (h : Below w.heap.size w w') : UnS x rb w w' := ⟨.of h, fun c => blk_below c h⟩
def IsPartN (rb : Nat) (f m : Int) (v : Value) (w : World) : Prop := ∃ g h : Nat, v = .func (.func 139) #[] #[.pointer (some ⟨g, 0, none⟩), .pointer (some ⟨h, 0, none⟩)] ∧ g ≠ rb ∧ h ≠ rb ∧ w.cell? ⟨g, 0, none⟩ = some (.int .i64 f) ∧ w.cell? ⟨h, 0, none⟩ = some (.int .i64 m)
theorem IsPartN.keep {rb : Nat} {f m : Int} {v : Value} {w w' : World} (h : IsPartN rb f m v w) (hb : But1 rb w w') : IsPartN rb f m v w' := by
 obtain ⟨g, k, rfl, n1, n2, c1, c2⟩ := h
 exact ⟨g, k, rfl, n1, n2, hb.cell n1 c1, hb.cell n2 c2⟩
theorem part_isN (rb : Nat) (f m : Int) (w : World) (hr : rb < w.heap.size) : Calls Tryz.prog 109 #[.int .i64 f, .int .i64 m] w fun e w' => ∃ v, e = .returned v ∧ IsPartN rb f m v w' ∧ Below w.heap.size w w' := by
 refine (part_any f m w).mono ?_
 rintro e w' ⟨rfl, rfl⟩
 refine ⟨_, rfl, ⟨_, _, rfl, by omega, by omega, ?_, ?_⟩, below_alloc (below_alloc (Below.refl _ _) _) _⟩
 ·exact blk_cell (blk_alloc (blk_new w (.cells #[.int .i64 f] 3)) (.cells #[.int .i64 m] 3)) 0
 ·simp
def unΦ (x xb rb : Nat) : Nat → Value → World → Prop
 | 0, v, w => IsPartN rb 30 32 v w
 | 1, v, _ => v = .int .u64 (x : Int)
 | 2, v, _ => v = .int .i64 (numW x 30 32 : Int)
 | 3, v, w => IsPartN rb 27 3 v w
 | 4, v, _ => v = .int .u64 (x : Int)
 | 5, v, _ => v = .int .i64 (numW x 27 3 : Int)
 | 6, v, _ => v = .func (.func 108) #[] #[.pointer (some ⟨xb, 0, none⟩)]
 | 7, v, _ => v = .bool (x.testBit 26)
 | 8, v, _ => v = .func (.func 108) #[] #[.pointer (some ⟨xb, 0, none⟩)]
 | 9, v, _ => v = .bool (x.testBit 25)
 | 10, v, _ => v = .func (.func 108) #[] #[.pointer (some ⟨xb, 0, none⟩)]
 | 11, v, _ => v = .bool (x.testBit 24)
 | 12, v, w => IsPartN rb 12 12 v w
 | 13, v, _ => v = .int .u64 (x : Int)
 | 14, v, _ => v = .int .i64 (numW x 12 12 : Int)
 | 15, v, w => IsPartN rb 0 12 v w
 | 16, v, _ => v = .int .u64 (x : Int)
 | 17, v, _ => v = .int .i64 (numW x 0 12 : Int)
 | 18, v, _ => v = .agg (partsV x)
 | 19, _, w => w.heap[rb]? = some (.cells (partsV x) 154 (0, 0))
 | _, _, _ => True
structure UnR (x xb rb : Nat) (w0 w : World) : Prop where
 but : But1 rb w0 w
 box : w.cell? ⟨xb, 0, none⟩ = some (.int .u64 (x : Int))
 res : ∃ c0 c1 c2 c3 c4 c5 c6 : Value, w.heap[rb]? = some (.cells #[c0, c1, c2, c3, c4, c5, c6] 154 (0, 0))
theorem UnR.grow {x xb rb : Nat} {w0 w w' : World} (h : UnR x xb rb w0 w) (hn : xb ≠ rb) (hb : Below w.heap.size w w') : UnR x xb rb w0 w' := by
 obtain ⟨c0, c1, c2, c3, c4, c5, c6, hc⟩ := h.res
 exact ⟨h.but.trans (.of hb), (But1.of (rb := rb) hb).cell hn h.box, c0, c1, c2, c3, c4, c5, c6, blk_below hc hb⟩
set_option maxHeartbeats 4000000 in
theorem Unpack_any (x : Nat) (w : World) (hx : x < 18446744073709551616) : Calls Tryz.prog 80 #[.int .u64 (x : Int)] w fun e w' => e = .returned (.agg (partsV x)) ∧ Below w.heap.size w w' := by
 have hmf : ∀ (fn : Fn) (first cap : Array Value) (w : World), (Instr.makeFunc fn first cap).run Tryz.prog w = .ok (.func fn first cap) w := fun _ _ _ _ => rfl
 go_enter Tryz.func80, Tryz.ntmps80
 go_wp2_with fail
 rename_i Q' K hK
 have b1 := blk_alloc (blk_new w (.cells #[.int .u64 (x : Int)] 22)) (.cells #[.int .i64 0, .int .i64 0, .bool false, .bool false, .bool false, .int .i64 0, .int .i64 0] 154)
 have b2 := blk_new (w.alloc (.cells #[.int .u64 (x : Int)] 22)) (.cells #[.int .i64 0, .int .i64 0, .bool false, .bool false, .bool false, .int .i64 0, .int .i64 0] 154)
 have hsz : (w.alloc (.cells #[.int .u64 (x : Int)] 22)).heap.size = w.heap.size + 1 := by simp
 rw [hsz] at b2
 have hW := below_alloc (below_alloc (Below.refl w.heap.size w) (.cells #[.int .u64 (x : Int)] 22)) (.cells #[.int .i64 0, .int .i64 0, .bool false, .bool false, .bool false, .int .i64 0, .int .i64 0] 154)
 generalize (w.alloc (Obj.cells #[Value.int IntKind.u64 (x : Int)] 22)).alloc (.cells #[.int .i64 0, .int .i64 0, .bool false, .bool false, .bool false, .int .i64 0, .int .i64 0] 154) = W at *
 have hrb : Hid (w.heap.size < w.heap.size + 1) := Hid.mk' (by omega)
 have hne : w.heap.size ≠ w.heap.size + 1 := by omega
 have hge : w.heap.size ≤ w.heap.size + 1 := by omega
 have hown : ∀ k, k < w.heap.size → k ≠ w.heap.size + 1 := fun k hk => by omega
 clear hsz hmf hge
 generalize w.heap.size + 1 = rb at *
 generalize hxb : w.heap.size = xb at *
 have kW : xb < W.heap.size := blk_lt b1
 refine wp_region_kept (n := 24) [(1, .pointer (some ⟨xb, 0, none⟩)), (2, .pointer (some ⟨rb, 0, none⟩)), (3, .func (.func 108) #[] #[.pointer (some ⟨xb, 0, none⟩)])] (unΦ x xb rb) (UnR x xb rb W) (UnS x rb) rfl (by kernel_rfl) (by kernel_rfl) ?_ ?_ ?_ ?_ ?_
 ·intro i v w w' hb h
  match i, h with
  | 0, h => exact IsPartN.keep h hb.but
  | 1, h => exact h
  | 2, h => exact h
  | 3, h => exact IsPartN.keep h hb.but
  | 4, h => exact h
  | 5, h => exact h
  | 6, h => exact h
  | 7, h => exact h
  | 8, h => exact h
  | 9, h => exact h
  | 10, h => exact h
  | 11, h => exact h
  | 12, h => exact IsPartN.keep h hb.but
  | 13, h => exact h
  | 14, h => exact h
  | 15, h => exact IsPartN.keep h hb.but
  | 16, h => exact h
  | 17, h => exact h
  | 18, h => exact h
  | 19, h => exact hb.fin h
  | n + 20, h => trivial
 ·intro i o hi a w' hk hR hd
  have k1 : a.tmps.getD 1 undef = .pointer (some ⟨xb, 0, none⟩) := hk.2.2 (1, .pointer (some ⟨xb, 0, none⟩)) (by simp)
  have k2 : a.tmps.getD 2 undef = .pointer (some ⟨rb, 0, none⟩) := hk.2.2 (2, .pointer (some ⟨rb, 0, none⟩)) (by simp)
  have k3 : a.tmps.getD 3 undef = .func (.func 108) #[] #[.pointer (some ⟨xb, 0, none⟩)] := hk.2.2 (3, .func (.func 108) #[] #[.pointer (some ⟨xb, 0, none⟩)]) (by simp)
  have hlt : rb < w'.heap.size := by obtain ⟨c0, c1, c2, c3, c4, c5, c6, hc⟩ := hR.res; exact blk_lt hc
  have cx := hR.box
  clear hk
  match i, hi with
  | 0, hi =>
   obtain rfl := Option.some.inj (show some _ = some o from hi)
   clear hd hi
   unfold Oper.wp
   simp [execOp, Act.eval, go_sem]
   refine (part_isN rb _ _ _ hlt).mono ?_
   rintro e w1 ⟨v, rfl, hv, hb⟩
   exact ⟨v, rfl, .of hb, hR.grow hne hb, hv⟩
  | 1, hi =>
   obtain rfl := Option.some.inj (show some _ = some o from hi)
   clear hd hi
   simp only [Array.getD_eq_getD_getElem?] at k1
   unfold Oper.wp
   simp [execOp, Act.eval, go_sem, k1, cx]
   exact ⟨_, rfl, .of (Below.refl _ _), hR, rfl⟩
  | 2, hi =>
   obtain rfl := Option.some.inj (show some _ = some o from hi)
   have d1 : IsPartN rb 30 32 (a.tmps.getD 5 undef) w' := hd ⟨0, .data⟩ (by simp) rfl
   have d2 : a.tmps.getD 6 undef = .int .u64 (x : Int) := hd ⟨1, .data⟩ (by simp) rfl
   clear hd hi
   obtain ⟨g1, g2, e1, _, _, c2, c3⟩ := d1
   simp only [Array.getD_eq_getD_getElem?] at e1 d2
   unfold Oper.wp
   simp [execOp, Act.eval, go_sem, e1, d2]
   refine (read_any x 30 32 _ _ _ hx (by omega) (by omega) c2 c3).mono ?_
   rintro e w1 ⟨rfl, hb⟩
   exact ⟨_, rfl, .of hb, hR.grow hne hb, rfl⟩
  | 3, hi =>
   obtain rfl := Option.some.inj (show some _ = some o from hi)
   clear hd hi
   unfold Oper.wp
   simp [execOp, Act.eval, go_sem]
   refine (part_isN rb _ _ _ hlt).mono ?_
   rintro e w1 ⟨v, rfl, hv, hb⟩
   exact ⟨v, rfl, .of hb, hR.grow hne hb, hv⟩
  | 4, hi =>
   obtain rfl := Option.some.inj (show some _ = some o from hi)
   clear hd hi
   simp only [Array.getD_eq_getD_getElem?] at k1
   unfold Oper.wp
   simp [execOp, Act.eval, go_sem, k1, cx]
   exact ⟨_, rfl, .of (Below.refl _ _), hR, rfl⟩
  | 5, hi =>
   obtain rfl := Option.some.inj (show some _ = some o from hi)
   have d1 : IsPartN rb 27 3 (a.tmps.getD 8 undef) w' := hd ⟨3, .data⟩ (by simp) rfl
   have d2 : a.tmps.getD 9 undef = .int .u64 (x : Int) := hd ⟨4, .data⟩ (by simp) rfl
   clear hd hi
   obtain ⟨g1, g2, e1, _, _, c2, c3⟩ := d1
   simp only [Array.getD_eq_getD_getElem?] at e1 d2
   unfold Oper.wp
   simp [execOp, Act.eval, go_sem, e1, d2]
   refine (read_any x 27 3 _ _ _ hx (by omega) (by omega) c2 c3).mono ?_
   rintro e w1 ⟨rfl, hb⟩
   exact ⟨_, rfl, .of hb, hR.grow hne hb, rfl⟩
  | 6, hi =>
   obtain rfl := Option.some.inj (show some _ = some o from hi)
   exact ⟨_, rfl, nofun, .of (Below.refl _ _), hR, k3⟩
  | 7, hi =>
   obtain rfl := Option.some.inj (show some _ = some o from hi)
   have d1 : a.tmps.getD 11 undef = .func (.func 108) #[] #[.pointer (some ⟨xb, 0, none⟩)] := hd ⟨6, .data⟩ (by simp) rfl
   clear hd hi
   simp only [Array.getD_eq_getD_getElem?] at d1
   unfold Oper.wp
   simp [execOp, Act.eval, go_sem, d1]
   refine (is_any x 26 _ _ hx (by omega) cx).mono ?_
   rintro e w1 ⟨rfl, hb⟩
   exact ⟨_, rfl, .of hb, hR.grow hne hb, rfl⟩
  | 8, hi =>
   obtain rfl := Option.some.inj (show some _ = some o from hi)
   exact ⟨_, rfl, nofun, .of (Below.refl _ _), hR, k3⟩
  | 9, hi =>
   obtain rfl := Option.some.inj (show some _ = some o from hi)
   have d1 : a.tmps.getD 13 undef = .func (.func 108) #[] #[.pointer (some ⟨xb, 0, none⟩)] := hd ⟨8, .data⟩ (by simp) rfl
   clear hd hi
   simp only [Array.getD_eq_getD_getElem?] at d1
   unfold Oper.wp
   simp [execOp, Act.eval, go_sem, d1]
   refine (is_any x 25 _ _ hx (by omega) cx).mono ?_
   rintro e w1 ⟨rfl, hb⟩
   exact ⟨_, rfl, .of hb, hR.grow hne hb, rfl⟩
  | 10, hi =>
   obtain rfl := Option.some.inj (show some _ = some o from hi)
   exact ⟨_, rfl, nofun, .of (Below.refl _ _), hR, k3⟩
  | 11, hi =>
   obtain rfl := Option.some.inj (show some _ = some o from hi)
   have d1 : a.tmps.getD 15 undef = .func (.func 108) #[] #[.pointer (some ⟨xb, 0, none⟩)] := hd ⟨10, .data⟩ (by simp) rfl
   clear hd hi
   simp only [Array.getD_eq_getD_getElem?] at d1
   unfold Oper.wp
   simp [execOp, Act.eval, go_sem, d1]
   refine (is_any x 24 _ _ hx (by omega) cx).mono ?_
   rintro e w1 ⟨rfl, hb⟩
   exact ⟨_, rfl, .of hb, hR.grow hne hb, rfl⟩
  | 12, hi =>
   obtain rfl := Option.some.inj (show some _ = some o from hi)
   clear hd hi
   unfold Oper.wp
   simp [execOp, Act.eval, go_sem]
   refine (part_isN rb _ _ _ hlt).mono ?_
   rintro e w1 ⟨v, rfl, hv, hb⟩
   exact ⟨v, rfl, .of hb, hR.grow hne hb, hv⟩
  | 13, hi =>
   obtain rfl := Option.some.inj (show some _ = some o from hi)
   clear hd hi
   simp only [Array.getD_eq_getD_getElem?] at k1
   unfold Oper.wp
   simp [execOp, Act.eval, go_sem, k1, cx]
   exact ⟨_, rfl, .of (Below.refl _ _), hR, rfl⟩
  | 14, hi =>
   obtain rfl := Option.some.inj (show some _ = some o from hi)
   have d1 : IsPartN rb 12 12 (a.tmps.getD 17 undef) w' := hd ⟨12, .data⟩ (by simp) rfl
   have d2 : a.tmps.getD 18 undef = .int .u64 (x : Int) := hd ⟨13, .data⟩ (by simp) rfl
   clear hd hi
   obtain ⟨g1, g2, e1, _, _, c2, c3⟩ := d1
   simp only [Array.getD_eq_getD_getElem?] at e1 d2
   unfold Oper.wp
   simp [execOp, Act.eval, go_sem, e1, d2]
   refine (read_any x 12 12 _ _ _ hx (by omega) (by omega) c2 c3).mono ?_
   rintro e w1 ⟨rfl, hb⟩
   exact ⟨_, rfl, .of hb, hR.grow hne hb, rfl⟩
  | 15, hi =>
   obtain rfl := Option.some.inj (show some _ = some o from hi)
   clear hd hi
   unfold Oper.wp
   simp [execOp, Act.eval, go_sem]
   refine (part_isN rb _ _ _ hlt).mono ?_
   rintro e w1 ⟨v, rfl, hv, hb⟩
   exact ⟨v, rfl, .of hb, hR.grow hne hb, hv⟩
  | 16, hi =>
   obtain rfl := Option.some.inj (show some _ = some o from hi)
   clear hd hi
   simp only [Array.getD_eq_getD_getElem?] at k1
   unfold Oper.wp
   simp [execOp, Act.eval, go_sem, k1, cx]
   exact ⟨_, rfl, .of (Below.refl _ _), hR, rfl⟩
  | 17, hi =>
   obtain rfl := Option.some.inj (show some _ = some o from hi)
   have d1 : IsPartN rb 0 12 (a.tmps.getD 20 undef) w' := hd ⟨15, .data⟩ (by simp) rfl
   have d2 : a.tmps.getD 21 undef = .int .u64 (x : Int) := hd ⟨16, .data⟩ (by simp) rfl
   clear hd hi
   obtain ⟨g1, g2, e1, _, _, c2, c3⟩ := d1
   simp only [Array.getD_eq_getD_getElem?] at e1 d2
   unfold Oper.wp
   simp [execOp, Act.eval, go_sem, e1, d2]
   refine (read_any x 0 12 _ _ _ hx (by omega) (by omega) c2 c3).mono ?_
   rintro e w1 ⟨rfl, hb⟩
   exact ⟨_, rfl, .of hb, hR.grow hne hb, rfl⟩
  | 18, hi =>
   obtain rfl := Option.some.inj (show some _ = some o from hi)
   have d2 : a.tmps.getD 7 undef = .int .i64 (numW x 30 32 : Int) := hd ⟨2, .data⟩ (by simp) rfl
   have d5 : a.tmps.getD 10 undef = .int .i64 (numW x 27 3 : Int) := hd ⟨5, .data⟩ (by simp) rfl
   have d7 : a.tmps.getD 12 undef = .bool (x.testBit 26) := hd ⟨7, .data⟩ (by simp) rfl
   have d9 : a.tmps.getD 14 undef = .bool (x.testBit 25) := hd ⟨9, .data⟩ (by simp) rfl
   have d11 : a.tmps.getD 16 undef = .bool (x.testBit 24) := hd ⟨11, .data⟩ (by simp) rfl
   have d14 : a.tmps.getD 19 undef = .int .i64 (numW x 12 12 : Int) := hd ⟨14, .data⟩ (by simp) rfl
   have d17 : a.tmps.getD 22 undef = .int .i64 (numW x 0 12 : Int) := hd ⟨17, .data⟩ (by simp) rfl
   clear hd hi
   simp only [Array.getD_eq_getD_getElem?] at d2 d5 d7 d9 d11 d14 d17
   unfold Oper.wp
   simp [execOp, Act.eval, go_sem, d2, d5, d7, d9, d11, d14, d17]
   exact ⟨_, rfl, .of (Below.refl _ _), hR, rfl⟩
  | 19, hi =>
   obtain rfl := Option.some.inj (show some _ = some o from hi)
   have d18 : a.tmps.getD 23 undef = .agg (partsV x) := hd ⟨18, .data⟩ (by simp) rfl
   clear hd hi
   obtain ⟨c0, c1, c2, c3, c4, c5, c6, hc⟩ := hR.res
   have z0 := blk_cell hc 0
   have f0 := blk_frozen hc 0
   have z1 := blk_cell hc 1
   have f1 := blk_frozen hc 1
   have z2 := blk_cell hc 2
   have f2 := blk_frozen hc 2
   have z3 := blk_cell hc 3
   have f3 := blk_frozen hc 3
   have z4 := blk_cell hc 4
   have f4 := blk_frozen hc 4
   have z5 := blk_cell hc 5
   have f5 := blk_frozen hc 5
   have z6 := blk_cell hc 6
   have f6 := blk_frozen hc 6
   simp at z0 z1 z2 z3 z4 z5 z6
   simp only [Array.getD_eq_getD_getElem?] at d18 k2
   unfold Oper.wp
   simp [execOp, Act.eval, go_sem, d18, k2, partsV, z0, f0, z1, f1, z2, f2, z3, f3, z4, f4, z5, f5, z6, f6]
   have D := blk_put (blk_put (blk_put (blk_put (blk_put (blk_put (blk_put hc 0 (.int .i64 (numW x 30 32 : Int)) rfl) 1 (.int .i64 (numW x 27 3 : Int)) rfl) 2 (.bool (x.testBit 26)) rfl) 3 (.bool (x.testBit 25)) rfl) 4 (.bool (x.testBit 24)) rfl) 5 (.int .i64 (numW x 12 12 : Int)) rfl) 6 (.int .i64 (numW x 0 12 : Int)) rfl
   have B := (((((((But1.of (rb := rb) (Below.refl w'.heap.size w')).set 0 (.int .i64 (numW x 30 32 : Int))).set 1 (.int .i64 (numW x 27 3 : Int))).set 2 (.bool (x.testBit 26))).set 3 (.bool (x.testBit 25))).set 4 (.bool (x.testBit 24))).set 5 (.int .i64 (numW x 12 12 : Int))).set 6 (.int .i64 (numW x 0 12 : Int))
   exact ⟨⟨B, fun _ => D⟩, ⟨hR.but.trans B, B.cell hne cx, _, _, _, _, _, _, _, D⟩, D⟩
  | n + 20, hi => simp at hi
 ·intro a w' hk hR hΦ
  have d19 : w'.heap[rb]? = some (.cells (partsV x) 154 (0, 0)) := hΦ 19 (by simp)
  have k2 : a.tmps.getD 2 undef = .pointer (some ⟨rb, 0, none⟩) := hk.2.2 (2, .pointer (some ⟨rb, 0, none⟩)) (by simp)
  refine hK _ _ (wp_ret ?_)
  refine bodyPost_ret (v := .agg (partsV x)) ?_ hk.1 ⟨rfl, ?_⟩
  ·exact results_cell_row rfl _ _ rb 154 (partsV x) (0, 0) _ k2 d19 Tryz.underlying154 rfl (by kernel_rfl)
  ·subst hxb
   have hB := hR.but
   exact ⟨hB.os.trans hW.os, hB.tape.trans hW.tape, hB.output.trans hW.output, Nat.le_trans hW.size hB.size, fun k hk => (hB.block k (Nat.lt_trans hk kW) (hown k hk)).trans (hW.block k hk)⟩
 ·exact ⟨rfl, rfl, by simp⟩
 ·have e : W.drew.heap = W.heap := rfl
  exact ⟨.of (below_drew (Below.refl _ _)), blk_cell (blk_drew b1) 0, _, _, _, _, _, _, _, blk_drew b2⟩
def anyW (x : Nat) (k : Int) : Bool := if 0 ≤ k ∧ k ≤ 1 then decide (numW x (12 * k).toNat 12 ≠ 0) || x.testBit (24 + k).toNat else false
theorem any_no {x : Nat} {k : Int} (h : ¬ (0 ≤ k ∧ k ≤ 1)) : anyW x k = false := by unfold anyW; rw [if_neg h]
theorem any_yes {x : Nat} {k : Int} (h : 0 ≤ k ∧ k ≤ 1) : anyW x k = (decide (numW x (12 * k).toNat 12 ≠ 0) || x.testBit (24 + k).toNat) := by unfold anyW; rw [if_pos h]
theorem two_cells (w : World) (a b : Value) :
  let W := (w.alloc (.cells #[a] 3)).alloc (.cells #[b] 3)
  W.cell? ⟨w.heap.size, 0, none⟩ = some a ∧ W.cell? ⟨w.heap.size + 1, 0, none⟩ = some b := by
 constructor
 ·exact blk_cell (blk_alloc (blk_new w (.cells #[a] 3)) (.cells #[b] 3)) 0
 ·simp
theorem Any_any (x : Nat) (k : Int) (w : World) (hx : x < 18446744073709551616) : Calls Tryz.prog 156 #[.int .u64 (x : Int), .int .i64 k] w fun e w' => e = .returned (.bool (anyW x k)) ∧ Below w.heap.size w w' := by
 by_cases h : 0 ≤ k ∧ k ≤ 1
 ·rw [any_yes h]
  obtain ⟨h1, h2⟩ := h
  have h3 : 0 ≤ k * 12 := by omega
  have h4 : 0 ≤ 24 + k := by omega
  generalize hf : (12 * k).toNat = f at *
  generalize hp : (24 + k).toNat = p at *
  have e1 : k * 12 = (f : Int) := by omega
  have e2 : 24 + k = (p : Int) := by omega
  have hf2 : f < 64 := by omega
  have hp2 : p < 64 := by omega
  have E1 := Hid.mk' e1
  have E2 := Hid.mk' e2
  have B1 := Hid.mk' (bit1 x p)
  clear e1 e2
  by_cases hz : numW x f 12 = 0
  ·rw [hz]
   clear hf hp
   go_enter Tryz.func156, Tryz.ntmps156
   go_wp2_with fail
   rw [E1.out]
   refine (part_any (f : Int) 12 _).mono ?_
   rintro e w1 ⟨rfl, rfl⟩
   obtain ⟨c1, c2⟩ := two_cells w (.int .i64 (f : Int)) (.int .i64 12)
   have hB := below_alloc (below_alloc (Below.refl w.heap.size w) (.cells #[.int .i64 (f : Int)] 3)) (.cells #[.int .i64 12] 3)
   generalize (w.alloc (Obj.cells #[Value.int IntKind.i64 (f : Int)] 3)).alloc (.cells #[.int .i64 12] 3) = W1 at *
   go_wp2_with fail
   refine (read_any x f 12 _ _ _ hx hf2 (by omega) c1 c2).mono ?_
   rintro e w2 ⟨rfl, hb2⟩
   rw [hz]
   go_wp2_with fail
   rw [E2.out]
   refine (part_any (p : Int) 1 _).mono ?_
   rintro e w1 ⟨rfl, rfl⟩
   obtain ⟨c3, c4⟩ := two_cells w2 (.int .i64 (p : Int)) (.int .i64 1)
   have hB2 := below_alloc (below_alloc (below_then hB hb2) (.cells #[.int .i64 (p : Int)] 3)) (.cells #[.int .i64 1] 3)
   generalize (w2.alloc (Obj.cells #[Value.int IntKind.i64 (p : Int)] 3)).alloc (.cells #[.int .i64 1] 3) = W2 at *
   go_wp2_with fail
   refine (read_any x p 1 _ _ _ hx hp2 (by omega) c3 c4).mono ?_
   rintro e w3 ⟨rfl, hb3⟩
   go_wp2_with fail
   go_ret
   exact ⟨by rw [← B1.out]; simp, below_then hB2 hb3⟩
  ·have hz1 : 0 < numW x f 12 := by omega
   rw [decide_eq_true hz]
   generalize hq : numW x f 12 = q at *
   have HQ := Hid.mk' hq
   have hz2 : ((q : Int) != 0) = true := by simp; omega
   clear hf hp hz hq
   go_enter Tryz.func156, Tryz.ntmps156
   go_wp2_with fail
   rw [E1.out]
   refine (part_any (f : Int) 12 _).mono ?_
   rintro e w1 ⟨rfl, rfl⟩
   obtain ⟨c1, c2⟩ := two_cells w (.int .i64 (f : Int)) (.int .i64 12)
   have hB := below_alloc (below_alloc (Below.refl w.heap.size w) (.cells #[.int .i64 (f : Int)] 3)) (.cells #[.int .i64 12] 3)
   generalize (w.alloc (Obj.cells #[Value.int IntKind.i64 (f : Int)] 3)).alloc (.cells #[.int .i64 12] 3) = W1 at *
   go_wp2_with fail
   refine (read_any x f 12 _ _ _ hx hf2 (by omega) c1 c2).mono ?_
   rintro e w2 ⟨rfl, hb2⟩
   rw [HQ.out]
   go_wp2_with fail
   go_ret
   exact ⟨by simp, below_then hB hb2⟩
 ·rw [any_no h]
  by_cases c1 : k < 0
  ·clear h
   go_enter Tryz.func156, Tryz.ntmps156
   go_wp2
   go_ret
   exact ⟨rfl, Below.refl _ _⟩
  ·have c2 : 1 < k := by omega
   clear h
   go_enter Tryz.func156, Tryz.ntmps156
   go_wp2
   go_ret
   exact ⟨rfl, Below.refl _ _⟩
def drop1 (x o : Nat) (k s : Int) (g : Bool) : Nat := if hasW x k s then (if g then clr o (bitOf k s) ||| pw (24 + k).toNat else clr o (bitOf k s)) else o
def dropN (x : Nat) (s : Int) (g : Bool) : Nat → Nat
 | 0 => x
 | m + 1 => drop1 x (dropN x s g m) (m : Int) s g
def dropW (x : Nat) (s : Int) (g : Bool) : Nat := dropN x s g 2
theorem drop1_lt {x o : Nat} {k s : Int} (g : Bool) (ho : o < 18446744073709551616) (h0 : 0 ≤ k) (h1 : k ≤ 1) : drop1 x o k s g < 18446744073709551616 := by
 unfold drop1
 have h2 := pw_lt (i := (24 + k).toNat) (by omega)
 have h3 := lt_clr (bitOf k s) ho
 split
 ·split
  ·exact lt_or h3 h2
  ·exact h3
 ·exact ho
theorem dropN_lt {x : Nat} {s : Int} (g : Bool) (hx : x < 18446744073709551616) : ∀ m, m ≤ 2 → dropN x s g m < 18446744073709551616
 | 0, _ => hx
 | m + 1, h => drop1_lt g (dropN_lt g hx m (by omega)) (by omega) (by omega)
set_option maxHeartbeats 1000000 in
theorem Drop_any (x : Nat) (s : Int) (g : Bool) (w : World) (hx : x < 18446744073709551616) : Calls Tryz.prog 301 #[.int .u64 (x : Int), .int .i64 s, .bool g] w fun e w' => e = .returned (.int .u64 (dropW x s g : Int)) ∧ Below w.heap.size w w' := by
 have hi0 : ∀ w, (Instr.index 135 (.agg #[.int .i64 0, .int .i64 1]) (.int .i64 0)).run Tryz.prog w = .ok (.int .i64 0) w := fun w => by kernel_rfl
 have hi1 : ∀ w, (Instr.index 135 (.agg #[.int .i64 0, .int .i64 1]) (.int .i64 1)).run Tryz.prog w = .ok (.int .i64 1) w := fun w => by kernel_rfl
 go_enter Tryz.func301, Tryz.ntmps301
 go_wp2_with fail
 go_loopw [7,12] (fun o i wr => ∃ m : Nat, m ≤ 2 ∧ i = .int .i64 (m : Int) ∧ o = .int .u64 (dropN x s g m : Int) ∧ Below w.heap.size w wr) (fun _ i _ => 2 - (intOf i).toNat)
 case atStart => exact ⟨0, by omega, rfl, rfl, Below.refl _ _⟩
 case round =>
  obtain ⟨m, hm, rfl, rfl, hB⟩ := hrel
  have hO := dropN_lt (s := s) g hx m hm
  have hst : Hid (dropN x s g (m + 1) = drop1 x (dropN x s g m) (m : Int) s g) := rfl
  have hend : Hid (dropW x s g = dropN x s g 2) := rfl
  have h01 : m = 0 ∨ m = 1 ∨ m = 2 := by omega
  rcases h01 with rfl | rfl | rfl
  ·generalize dropN x s g 0 = O at *
   have hg1 := go_clr O (bitOf 0 s) hO (bitOf_lt 0 s)
   cases hh : hasW x 0 s with
   | false =>
    have e : Hid (dropN x s g (0 + 1) = O) := by
     show _ = _
     rw [hst.out]
     unfold drop1
     rw [show hasW x ((0 : Nat) : Int) s = false from hh]
     rfl
    clear hst hend
    have HH := Hid.mk' hh
    clear hh
    go_wp2_with (first | (go_at_call 296; refine (Has_any x 0 s _ hx).mono ?_; rintro e w1 ⟨rfl, hb1⟩; rw [HH.out]))
    go_roundw
    case rel => exact ⟨0 + 1, by omega, by go_num, by rw [e.out], below_then hB hb1⟩
    case measure => simp [intOf] <;> omega
   | true =>
    have HH := Hid.mk' hh
    have hl := lt_clr (bitOf 0 s) hO
    cases g with
    | false =>
     have hg2 : bits .or .u64 ((clr O (bitOf 0 s) : Nat) : Int) 0 = ((clr O (bitOf 0 s) : Nat) : Int) := by
      have := go_or (clr O (bitOf 0 s)) 0 hl (by omega)
      simpa using this
     have e : Hid (dropN x s false (0 + 1) = clr O (bitOf 0 s)) := by
      show _ = _
      rw [hst.out]
      unfold drop1
      rw [show hasW x ((0 : Nat) : Int) s = true from hh]
      rfl
     clear hst hend hh
     go_wp2_with (first | (go_at_call 296; refine (Has_any x 0 s _ hx).mono ?_; rintro e w1 ⟨rfl, hb1⟩; rw [HH.out]) | (go_at_call 303; refine (of_any _ _ _).mono ?_; rintro e w2 ⟨rfl, hb2⟩) | (go_at_call 199; refine (bit_any _ _).mono ?_; rintro e w3 ⟨rfl, hb3⟩))
     go_roundw
     case rel => exact ⟨0 + 1, by omega, by go_num, by rw [e.out], below_then (below_then (below_then hB hb1) hb2) hb3⟩
     case measure => simp [intOf] <;> omega
    | true =>
     have hg2 : bits .or .u64 ((clr O (bitOf 0 s) : Nat) : Int) 16777216 = ((clr O (bitOf 0 s) ||| 16777216 : Nat) : Int) := go_or (clr O (bitOf 0 s)) 16777216 hl (by omega)
     have e : Hid (dropN x s true (0 + 1) = clr O (bitOf 0 s) ||| 16777216) := by
      show _ = _
      rw [hst.out]
      unfold drop1
      rw [show hasW x ((0 : Nat) : Int) s = true from hh]
      rfl
     clear hst hend hh
     go_wp2_with (first | (go_at_call 296; refine (Has_any x 0 s _ hx).mono ?_; rintro e w1 ⟨rfl, hb1⟩; rw [HH.out]) | (go_at_call 303; refine (of_any _ _ _).mono ?_; rintro e w2 ⟨rfl, hb2⟩) | (go_at_call 199; refine (bit_any _ _).mono ?_; rintro e w3 ⟨rfl, hb3⟩))
     go_roundw
     case rel => exact ⟨0 + 1, by omega, by go_num, by rw [e.out], below_then (below_then (below_then hB hb1) hb2) hb3⟩
     case measure => simp [intOf] <;> omega
  ·generalize dropN x s g 1 = O at *
   have hg1 := go_clr O (bitOf 1 s) hO (bitOf_lt 1 s)
   cases hh : hasW x 1 s with
   | false =>
    have e : Hid (dropN x s g (1 + 1) = O) := by
     show _ = _
     rw [hst.out]
     unfold drop1
     rw [show hasW x ((1 : Nat) : Int) s = false from hh]
     rfl
    clear hst hend
    have HH := Hid.mk' hh
    clear hh
    go_wp2_with (first | (go_at_call 296; refine (Has_any x 1 s _ hx).mono ?_; rintro e w1 ⟨rfl, hb1⟩; rw [HH.out]))
    go_roundw
    case rel => exact ⟨1 + 1, by omega, by go_num, by rw [e.out], below_then hB hb1⟩
    case measure => simp [intOf] <;> omega
   | true =>
    have HH := Hid.mk' hh
    have hl := lt_clr (bitOf 1 s) hO
    cases g with
    | false =>
     have hg2 : bits .or .u64 ((clr O (bitOf 1 s) : Nat) : Int) 0 = ((clr O (bitOf 1 s) : Nat) : Int) := by
      have := go_or (clr O (bitOf 1 s)) 0 hl (by omega)
      simpa using this
     have e : Hid (dropN x s false (1 + 1) = clr O (bitOf 1 s)) := by
      show _ = _
      rw [hst.out]
      unfold drop1
      rw [show hasW x ((1 : Nat) : Int) s = true from hh]
      rfl
     clear hst hend hh
     go_wp2_with (first | (go_at_call 296; refine (Has_any x 1 s _ hx).mono ?_; rintro e w1 ⟨rfl, hb1⟩; rw [HH.out]) | (go_at_call 303; refine (of_any _ _ _).mono ?_; rintro e w2 ⟨rfl, hb2⟩) | (go_at_call 199; refine (bit_any _ _).mono ?_; rintro e w3 ⟨rfl, hb3⟩))
     go_roundw
     case rel => exact ⟨1 + 1, by omega, by go_num, by rw [e.out], below_then (below_then (below_then hB hb1) hb2) hb3⟩
     case measure => simp [intOf] <;> omega
    | true =>
     have hg2 : bits .or .u64 ((clr O (bitOf 1 s) : Nat) : Int) 33554432 = ((clr O (bitOf 1 s) ||| 33554432 : Nat) : Int) := go_or (clr O (bitOf 1 s)) 33554432 hl (by omega)
     have e : Hid (dropN x s true (1 + 1) = clr O (bitOf 1 s) ||| 33554432) := by
      show _ = _
      rw [hst.out]
      unfold drop1
      rw [show hasW x ((1 : Nat) : Int) s = true from hh]
      rfl
     clear hst hend hh
     go_wp2_with (first | (go_at_call 296; refine (Has_any x 1 s _ hx).mono ?_; rintro e w1 ⟨rfl, hb1⟩; rw [HH.out]) | (go_at_call 303; refine (of_any _ _ _).mono ?_; rintro e w2 ⟨rfl, hb2⟩) | (go_at_call 199; refine (bit_any _ _).mono ?_; rintro e w3 ⟨rfl, hb3⟩))
     go_roundw
     case rel => exact ⟨1 + 1, by omega, by go_num, by rw [e.out], below_then (below_then (below_then hB hb1) hb2) hb3⟩
     case measure => simp [intOf] <;> omega
  ·clear hst
   generalize dropN x s g 2 = O at *
   go_wp2
   go_ret
   exact ⟨by rw [hend.out]; simp, hB⟩
def bt (b : Bool) : Nat := if b then 1 else 0
theorem bt_le (b : Bool) : bt b ≤ 1 := by cases b <;> decide
theorem bit_q (b : Bool) (B : Nat) (h : Hid (bt b = B)) (w : World) : Calls Tryz.prog 199 #[.bool b] w fun e w' => e = .returned (.int .u64 (B : Int)) ∧ Below w.heap.size w w' := by
 refine (bit_any b w).mono ?_
 rintro e w' ⟨rfl, hb⟩
 refine ⟨?_, hb⟩
 rw [← h.out]
 cases b <;> rfl
def wordN (g st : Nat) (b ip op : Bool) (i o : Nat) : Nat := 1073741824 * g + 134217728 * st + 67108864 * bt b + 33554432 * bt ip + 16777216 * bt op + 4096 * i + o
theorem or64 (k : Nat) (x y : Int) (hy0 : 0 ≤ y) (hy : y % 2 ^ k = 0) (hy1 : y < 18446744073709551616) (hx0 : 0 ≤ x) (hx : x < 2 ^ k) (hx1 : x < 18446744073709551616) : bits .or .u64 x y = x + y := by
 rw [or_comm64, join64 k y x hy0 hy hy1 hx0 hx hx1]
 omega
theorem chain_val (g st B1 B2 B3 i o : Nat) (hg : g ≤ 1073741824) (hst : st ≤ 7) (h1 : B1 ≤ 1) (h2 : B2 ≤ 1) (h3 : B3 ≤ 1) (hi : i ≤ 4095) (ho : o ≤ 4095) :
  bits .or .u64 (bits .or .u64 (bits .or .u64 (bits .or .u64 (bits .or .u64 (bits .or .u64 (o : Int) (i * 4096)) (B3 * 16777216)) (B2 * 33554432)) (B1 * 67108864)) (st * 134217728)) (g * 1073741824) = ((1073741824 * g + 134217728 * st + 67108864 * B1 + 33554432 * B2 + 16777216 * B3 + 4096 * i + o : Nat) : Int) := by
 rw [or64 12 (o : Int) (i * 4096) (by omega) (by omega) (by omega) (by omega) (by omega) (by omega)]
 rw [or64 24 _ (B3 * 16777216) (by omega) (by omega) (by omega) (by omega) (by omega) (by omega)]
 rw [or64 25 _ (B2 * 33554432) (by omega) (by omega) (by omega) (by omega) (by omega) (by omega)]
 rw [or64 26 _ (B1 * 67108864) (by omega) (by omega) (by omega) (by omega) (by omega) (by omega)]
 rw [or64 27 _ (st * 134217728) (by omega) (by omega) (by omega) (by omega) (by omega) (by omega)]
 rw [or64 30 _ (g * 1073741824) (by omega) (by omega) (by omega) (by omega) (by omega) (by omega)]
 omega
theorem tb (x n : Nat) : x.testBit n = decide (x / 2 ^ n % 2 = 1) := Nat.testBit_eq_decide_div_mod_eq
theorem bt_dec (b : Bool) : b = decide (bt b = 1) := by cases b <;> rfl
theorem parts_word (g st : Nat) (b ip op : Bool) (i o : Nat) (hg : g ≤ 1073741824) (hst : st ≤ 7) (hi : i ≤ 4095) (ho : o ≤ 4095) :
  partsV (wordN g st b ip op i o) = #[.int .i64 (g : Int), .int .i64 (st : Int), .bool b, .bool ip, .bool op, .int .i64 (i : Int), .int .i64 (o : Int)] := by
 have l1 := bt_le b
 have l2 := bt_le ip
 have l3 := bt_le op
 unfold partsV wordN numW
 rw [tb, tb, tb]
 simp only [show pw 30 = 1073741824 from rfl, show pw 32 = 4294967296 from rfl, show pw 27 = 134217728 from rfl, show pw 3 = 8 from rfl, show pw 12 = 4096 from rfl, show pw 0 = 1 from rfl, show (2 ^ 26 : Nat) = 67108864 from rfl, show (2 ^ 25 : Nat) = 33554432 from rfl, show (2 ^ 24 : Nat) = 16777216 from rfl]
 rw [show decide ((1073741824 * g + 134217728 * st + 67108864 * bt b + 33554432 * bt ip + 16777216 * bt op + 4096 * i + o) / 67108864 % 2 = 1) = b by conv => { rhs; rw [bt_dec b] }; exact decide_eq_decide.2 (by omega)]
 rw [show decide ((1073741824 * g + 134217728 * st + 67108864 * bt b + 33554432 * bt ip + 16777216 * bt op + 4096 * i + o) / 33554432 % 2 = 1) = ip by conv => { rhs; rw [bt_dec ip] }; exact decide_eq_decide.2 (by omega)]
 rw [show decide ((1073741824 * g + 134217728 * st + 67108864 * bt b + 33554432 * bt ip + 16777216 * bt op + 4096 * i + o) / 16777216 % 2 = 1) = op by conv => { rhs; rw [bt_dec op] }; exact decide_eq_decide.2 (by omega)]
 rw [show (1073741824 * g + 134217728 * st + 67108864 * bt b + 33554432 * bt ip + 16777216 * bt op + 4096 * i + o) / 1073741824 % 4294967296 = g by omega, show (1073741824 * g + 134217728 * st + 67108864 * bt b + 33554432 * bt ip + 16777216 * bt op + 4096 * i + o) / 134217728 % 8 = st by omega, show (1073741824 * g + 134217728 * st + 67108864 * bt b + 33554432 * bt ip + 16777216 * bt op + 4096 * i + o) / 4096 % 4096 = i by omega, show (1073741824 * g + 134217728 * st + 67108864 * bt b + 33554432 * bt ip + 16777216 * bt op + 4096 * i + o) / 1 % 4096 = o by omega]
theorem wordN_lt {g st : Nat} {b ip op : Bool} {i o : Nat} (hg : g ≤ 1073741824) (hst : st ≤ 7) (hi : i ≤ 4095) (ho : o ≤ 4095) : wordN g st b ip op i o < 18446744073709551616 := by
 have l1 := bt_le b
 have l2 := bt_le ip
 have l3 := bt_le op
 unfold wordN
 omega
theorem Unpack_word (g st : Nat) (b ip op : Bool) (i o : Nat) (X : Nat) (hX : Hid (wordN g st b ip op i o = X)) (w : World) (hg : g ≤ 1073741824) (hst : st ≤ 7) (hi : i ≤ 4095) (ho : o ≤ 4095) :
  Calls Tryz.prog 80 #[.int .u64 (X : Int)] w fun e w' => e = .returned (.agg #[.int .i64 (g : Int), .int .i64 (st : Int), .bool b, .bool ip, .bool op, .int .i64 (i : Int), .int .i64 (o : Int)]) ∧ Below w.heap.size w w' := by
 have h1 := parts_word g st b ip op i o hg hst hi ho
 have h2 := wordN_lt (b := b) (ip := ip) (op := op) hg hst hi ho
 rw [hX.out] at h1 h2
 rw [← h1]
 exact Unpack_any X w h2
set_option maxHeartbeats 2000000 in
theorem Pack_yes (g st : Nat) (b ip op : Bool) (i o : Nat) (w : World) (hg : g ≤ 1073741824) (hst : st ≤ 7) (hi : i ≤ 4095) (ho : o ≤ 4095) :
  Calls Tryz.prog 283 #[.agg #[.int .i64 (g : Int), .int .i64 (st : Int), .bool b, .bool ip, .bool op, .int .i64 (i : Int), .int .i64 (o : Int)]] w fun e w' => e = .returned (.tuple #[.int .u64 (wordN g st b ip op i o : Int), .bool true]) ∧ Below w.heap.size w w' := by
 have b1 := blk_new w (.cells #[.int .i64 (g : Int), .int .i64 (st : Int), .bool b, .bool ip, .bool op, .int .i64 (i : Int), .int .i64 (o : Int)] 154)
 have hB := below_alloc (Below.refl w.heap.size w) (.cells #[.int .i64 (g : Int), .int .i64 (st : Int), .bool b, .bool ip, .bool op, .int .i64 (i : Int), .int .i64 (o : Int)] 154)
 obtain ⟨B1, hB1⟩ : ∃ B, bt b = B := ⟨_, rfl⟩
 obtain ⟨B2, hB2⟩ : ∃ B, bt ip = B := ⟨_, rfl⟩
 obtain ⟨B3, hB3⟩ : ∃ B, bt op = B := ⟨_, rfl⟩
 have l1 := bt_le b
 have l2 := bt_le ip
 have l3 := bt_le op
 rw [hB1] at l1
 rw [hB2] at l2
 rw [hB3] at l3
 have E1 := Hid.mk' hB1
 have E2 := Hid.mk' hB2
 have E3 := Hid.mk' hB3
 have hX : wordN g st b ip op i o = 1073741824 * g + 134217728 * st + 67108864 * B1 + 33554432 * B2 + 16777216 * B3 + 4096 * i + o := by
  unfold wordN
  rw [hB1, hB2, hB3]
 have hch := chain_val g st B1 B2 B3 i o hg hst l1 l2 l3 hi ho
 rw [← hX] at hch
 generalize hX2 : wordN g st b ip op i o = X at *
 have HX := Hid.mk' hX2
 have HCH := Hid.mk' hch
 clear hB1 hB2 hB3 hX hch hX2
 have hgd : decide ((1073741824 : Int) < (g : Int)) = false := decide_eq_false (by omega)
 go_enter Tryz.func283, Tryz.ntmps283
 go_wp2_with fail
 generalize w.alloc (Obj.cells #[Value.int IntKind.i64 (g : Int), Value.int IntKind.i64 (st : Int), Value.bool b, Value.bool ip, Value.bool op, Value.int IntKind.i64 (i : Int), Value.int IntKind.i64 (o : Int)] 154) = W at *
 have c0 := blk_cell b1 0
 have c1 := blk_cell b1 1
 have c2 := blk_cell b1 2
 have c3 := blk_cell b1 3
 have c4 := blk_cell b1 4
 have c5 := blk_cell b1 5
 have c6 := blk_cell b1 6
 simp at c0 c1 c2 c3 c4 c5 c6
 generalize w.heap.size = G at c0 c1 c2 c3 c4 c5 c6 b1 ⊢
 have g0 := cell_regrown c0
 have g1 := cell_regrown c1
 have g2 := cell_regrown c2
 have g3 := cell_regrown c3
 have g4 := cell_regrown c4
 have g5 := cell_regrown c5
 have g6 := cell_regrown c6
 refine wp_region_quiet_below (by kernel_rfl) (by kernel_rfl) ?_
 repeat (go_big_quiet_step (first | (go_at_call 199; first | exact quiet_call (bit_q b _ E1 _) | exact quiet_call (bit_q ip _ E2 _) | exact quiet_call (bit_q op _ E3 _))))
 refine wpQuiet_nil ?_
 rintro w3 ⟨r3, rfl⟩
 rw [HCH.out]
 have hB3 := below_regrow hB r3.d r3.os
 have c0 := g0 r3.d r3.os
 have c1 := g1 r3.d r3.os
 have c2 := g2 r3.d r3.os
 have c3 := g3 r3.d r3.os
 have c4 := g4 r3.d r3.os
 have c5 := g5 r3.d r3.os
 have c6 := g6 r3.d r3.os
 generalize Go.Sort.grow (redrawn W r3.d) r3.os = W3 at *
 clear g0 g1 g2 g3 g4 g5 g6 hB b1
 have g0 := cell_regrown c0
 have g1 := cell_regrown c1
 have g2 := cell_regrown c2
 have g3 := cell_regrown c3
 have g4 := cell_regrown c4
 have g5 := cell_regrown c5
 have g6 := cell_regrown c6
 go_wp2_with fail
 refine wp_region_quiet_below (by kernel_rfl) (by kernel_rfl) ?_
 repeat (go_big_quiet_step (first | (go_at_call 80; exact quiet_call (Unpack_word g st b ip op i o X HX _ hg hst hi ho))))
 refine wpQuiet_nil ?_
 rintro w4 ⟨r4, rfl⟩
 go_wp2_with fail
 go_ret2
 exact ⟨rfl, below_regrow hB3 _ _⟩
theorem numW_nn (x f m : Nat) : (0 : Int) ≤ (numW x f m : Int) := Int.natCast_nonneg _
theorem Unpack_lit (X : Nat) (w : World) (hX : X < 18446744073709551616) :
  Calls Tryz.prog 80 #[.int .u64 (X : Int)] w fun e w' => e = .returned (.agg #[.int .i64 (numW X 30 32 : Int), .int .i64 (numW X 27 3 : Int), .bool (X.testBit 26), .bool (X.testBit 25), .bool (X.testBit 24), .int .i64 (numW X 12 12 : Int), .int .i64 (numW X 0 12 : Int)]) ∧ Below w.heap.size w w' := Unpack_any X w hX
def orN (a b : Int) : Nat := (BitVec.ofInt 64 a ||| BitVec.ofInt 64 b).toNat
theorem orN_lt (a b : Int) : orN a b < 18446744073709551616 := (BitVec.ofInt 64 a ||| BitVec.ofInt 64 b).isLt
theorem or_toNat (a b : Int) : bits .or .u64 a b = ((orN a b : Nat) : Int) := by
 have := orN_lt a b
 show IntKind.u64.wrap ((BitVec.ofInt 64 a ||| BitVec.ofInt 64 b).toNat : Int) = _
 exact IntWalk.u64_in _ (by unfold orN at *; omega)
def validS (g st i o : Int) : Prop := 0 ≤ g ∧ g ≤ 1073741824 ∧ 0 ≤ st ∧ st ≤ 7 ∧ 0 ≤ i ∧ i ≤ 4095 ∧ 0 ≤ o ∧ o ≤ 4095
set_option maxHeartbeats 4000000 in
theorem Pack_no (g st : Int) (b ip op : Bool) (i o : Int) (w : World) (wg : (Lit.int .i64 g).wf = true) (wst : (Lit.int .i64 st).wf = true) (wi : (Lit.int .i64 i).wf = true) (wo : (Lit.int .i64 o).wf = true) (hv : ¬ validS g st i o) :
  Calls Tryz.prog 283 #[.agg #[.int .i64 g, .int .i64 st, .bool b, .bool ip, .bool op, .int .i64 i, .int .i64 o]] w fun e w' => e = .returned (.tuple #[.int .u64 0, .bool false]) ∧ Below w.heap.size w w' := by
 have b1 := blk_new w (.cells #[.int .i64 g, .int .i64 st, .bool b, .bool ip, .bool op, .int .i64 i, .int .i64 o] 154)
 have hB := below_alloc (Below.refl w.heap.size w) (.cells #[.int .i64 g, .int .i64 st, .bool b, .bool ip, .bool op, .int .i64 i, .int .i64 o] 154)
 obtain ⟨wg0, wg1⟩ := i64_bd wg
 obtain ⟨ws0, ws1⟩ := i64_bd wst
 obtain ⟨wi0, wi1⟩ := i64_bd wi
 obtain ⟨wo0, wo1⟩ := i64_bd wo
 clear wg wst wi wo
 have HV := Hid.mk' hv
 clear hv
 obtain ⟨B1, hB1⟩ : ∃ B, bt b = B := ⟨_, rfl⟩
 obtain ⟨B2, hB2⟩ : ∃ B, bt ip = B := ⟨_, rfl⟩
 obtain ⟨B3, hB3⟩ : ∃ B, bt op = B := ⟨_, rfl⟩
 have l1 := bt_le b
 have l2 := bt_le ip
 have l3 := bt_le op
 rw [hB1] at l1
 rw [hB2] at l2
 rw [hB3] at l3
 have E1 := Hid.mk' hB1
 have E2 := Hid.mk' hB2
 have E3 := Hid.mk' hB3
 clear hB1 hB2 hB3
 go_enter Tryz.func283, Tryz.ntmps283
 go_wp2_with fail
 generalize w.alloc (Obj.cells #[Value.int IntKind.i64 g, Value.int IntKind.i64 st, Value.bool b, Value.bool ip, Value.bool op, Value.int IntKind.i64 i, Value.int IntKind.i64 o] 154) = W at *
 have c0 := blk_cell b1 0
 have c1 := blk_cell b1 1
 have c2 := blk_cell b1 2
 have c3 := blk_cell b1 3
 have c4 := blk_cell b1 4
 have c5 := blk_cell b1 5
 have c6 := blk_cell b1 6
 simp at c0 c1 c2 c3 c4 c5 c6
 generalize w.heap.size = G at c0 c1 c2 c3 c4 c5 c6 b1 ⊢
 have g0 := cell_regrown c0
 have g1 := cell_regrown c1
 have g2 := cell_regrown c2
 have g3 := cell_regrown c3
 have g4 := cell_regrown c4
 have g5 := cell_regrown c5
 have g6 := cell_regrown c6
 refine wp_region_quiet_below (by kernel_rfl) (by kernel_rfl) ?_
 repeat (go_big_quiet_step (first | (go_at_call 199; first | exact quiet_call (bit_q b _ E1 _) | exact quiet_call (bit_q ip _ E2 _) | exact quiet_call (bit_q op _ E3 _))))
 refine wpQuiet_nil ?_
 rintro w3 ⟨r3, rfl⟩
 rw [or_toNat _ (IntKind.u64.wrap (IntKind.u64.wrap g * 1073741824))]
 generalize hXe : orN _ _ = X
 have hX : X < 18446744073709551616 := by rw [← hXe]; exact orN_lt _ _
 clear hXe
 have hB3 := below_regrow hB r3.d r3.os
 have c0 := g0 r3.d r3.os
 have c1 := g1 r3.d r3.os
 have c2 := g2 r3.d r3.os
 have c3 := g3 r3.d r3.os
 have c4 := g4 r3.d r3.os
 have c5 := g5 r3.d r3.os
 have c6 := g6 r3.d r3.os
 generalize Go.Sort.grow (redrawn W r3.d) r3.os = W3 at *
 clear g0 g1 g2 g3 g4 g5 g6 hB b1
 have g0 := cell_regrown c0
 have g1 := cell_regrown c1
 have g2 := cell_regrown c2
 have g3 := cell_regrown c3
 have g4 := cell_regrown c4
 have g5 := cell_regrown c5
 have g6 := cell_regrown c6
 by_cases hgt : (1073741824 : Int) < g
 ·have hgd : decide ((1073741824 : Int) < g) = true := decide_eq_true hgt
  go_wp2_with fail
  refine wp_region_quiet_below (by kernel_rfl) (by kernel_rfl) ?_
  repeat (go_big_quiet_step (first | (go_at_call 80; exact quiet_call (Unpack_lit X _ hX))))
  refine wpQuiet_nil ?_
  rintro w4 ⟨r4, rfl⟩
  go_wp2_with fail
  go_ret2
  exact ⟨rfl, below_regrow hB3 _ _⟩
 have hgd : decide ((1073741824 : Int) < g) = false := decide_eq_false hgt
 have hbad : g < 0 ∨ (st < 0 ∨ 7 < st) ∨ (i < 0 ∨ 4095 < i) ∨ (o < 0 ∨ 4095 < o) := by
  have hv := HV.out
  unfold validS at hv
  omega
 have n1 := numW_nn X 30 32
 have n2 := numW_lt X 27 3
 have n3 := numW_lt X 12 12
 have n4 := numW_lt X 0 12
 have m2 := numW_nn X 27 3
 have m3 := numW_nn X 12 12
 have m4 := numW_nn X 0 12
 rw [show pw 3 = 8 from rfl] at n2
 rw [show pw 12 = 4096 from rfl] at n3 n4
 rcases hbad with h | h | h | h
 ·have q : ((numW X 30 32 : Int) == g) = false := by simp; omega
  clear h n1 n2 n3 n4 m2 m3 m4
  go_wp2_with fail
  refine wp_region_quiet_below (by kernel_rfl) (by kernel_rfl) ?_
  repeat (go_big_quiet_step (first | (go_at_call 80; exact quiet_call (Unpack_lit X _ hX))))
  refine wpQuiet_nil ?_
  rintro w4 ⟨r4, rfl⟩
  go_wp2_with fail
  go_ret2
  exact ⟨rfl, below_regrow hB3 _ _⟩
 ·have q : ((numW X 27 3 : Int) == st) = false := by simp; omega
  clear h n1 n2 n3 n4 m2 m3 m4
  go_wp2_with fail
  refine wp_region_quiet_below (by kernel_rfl) (by kernel_rfl) ?_
  repeat (go_big_quiet_step (first | (go_at_call 80; exact quiet_call (Unpack_lit X _ hX))))
  refine wpQuiet_nil ?_
  rintro w4 ⟨r4, rfl⟩
  go_wp2_with fail
  go_ret2
  exact ⟨rfl, below_regrow hB3 _ _⟩
 ·have q : ((numW X 12 12 : Int) == i) = false := by simp; omega
  clear h n1 n2 n3 n4 m2 m3 m4
  go_wp2_with fail
  refine wp_region_quiet_below (by kernel_rfl) (by kernel_rfl) ?_
  repeat (go_big_quiet_step (first | (go_at_call 80; exact quiet_call (Unpack_lit X _ hX))))
  refine wpQuiet_nil ?_
  rintro w4 ⟨r4, rfl⟩
  go_wp2_with fail
  go_ret2
  exact ⟨rfl, below_regrow hB3 _ _⟩
 ·have q : ((numW X 0 12 : Int) == o) = false := by simp; omega
  clear h n1 n2 n3 n4 m2 m3 m4
  go_wp2_with fail
  refine wp_region_quiet_below (by kernel_rfl) (by kernel_rfl) ?_
  repeat (go_big_quiet_step (first | (go_at_call 80; exact quiet_call (Unpack_lit X _ hX))))
  refine wpQuiet_nil ?_
  rintro w4 ⟨r4, rfl⟩
  go_wp2_with fail
  go_ret2
  exact ⟨rfl, below_regrow hB3 _ _⟩

def moveN (x S : Nat) (b : Bool) : Nat := 1073741824 * (x / 1073741824) + 134217728 * S + 67108864 * bt b + x % 67108864
theorem moveN_lt {x S : Nat} (b : Bool) (hx : x < 18446744073709551616) (hS : S < 8) : moveN x S b < 18446744073709551616 := by
 have := bt_le b
 unfold moveN
 omega
theorem clr_mid (x : Nat) : clr x 1006632960 = 1073741824 * (x / 1073741824) + x % 67108864 := by
 apply Nat.eq_of_testBit_eq
 intro j
 rw [testBit_clr]
 have h1 : (1006632960 : Nat).testBit j = (decide (26 ≤ j) && decide (j < 30)) := by
  rw [show (1006632960 : Nat) = 2 ^ 26 * (2 ^ 4 - 1) + 0 from rfl, Nat.testBit_two_pow_mul_add _ (by omega)]
  split
  ·rename_i h; simp [show ¬ 26 ≤ j by omega]
  ·rename_i h
   rw [Nat.testBit_two_pow_sub_one, decide_eq_true (show 26 ≤ j by omega), Bool.true_and]
   exact decide_eq_decide.2 (by omega)
 rw [h1, show 1073741824 * (x / 1073741824) + x % 67108864 = 2 ^ 30 * (x / 2 ^ 30) + x % 2 ^ 26 from rfl, Nat.testBit_two_pow_mul_add _ (Nat.lt_of_lt_of_le (Nat.mod_lt _ (by omega)) (by omega))]
 split
 ·rename_i h
  rw [Nat.testBit_mod_two_pow, decide_eq_true h, Bool.and_true, Bool.and_comm]
  congr 1
  rw [Bool.eq_iff_iff]
  simp
 ·rename_i h
  rw [Nat.testBit_div_two_pow, show j - 30 + 30 = j by omega, decide_eq_false h]
  simp
theorem or_mid (q r S : Nat) (hr : r < 134217728) (hS : S < 8) : (1073741824 * q + r) ||| (134217728 * S) = 1073741824 * q + 134217728 * S + r := by
 have h1 : 2 ^ 30 * q + r = 2 ^ 30 * q ||| r := Nat.two_pow_add_eq_or_of_lt (by omega) q
 have h2 : 2 ^ 27 * S + r = 2 ^ 27 * S ||| r := Nat.two_pow_add_eq_or_of_lt (by omega) S
 have h3 : 2 ^ 30 * q + (2 ^ 27 * S + r) = 2 ^ 30 * q ||| (2 ^ 27 * S + r) := Nat.two_pow_add_eq_or_of_lt (by omega) q
 have e1 : (1073741824 : Nat) = 2 ^ 30 := rfl
 have e2 : (134217728 : Nat) = 2 ^ 27 := rfl
 rw [e1, e2, h1, Nat.or_assoc, Nat.or_comm r, ← h2, ← h3, Nat.add_assoc]
theorem or_26 (x : Nat) (B : Nat) (hB : B ≤ 1) : (1073741824 * (x / 1073741824) + x % 67108864) ||| (67108864 * B) = 1073741824 * (x / 1073741824) + (67108864 * B + x % 67108864) := by
 have h1 : 2 ^ 30 * (x / 1073741824) + x % 67108864 = 2 ^ 30 * (x / 1073741824) ||| (x % 67108864) := Nat.two_pow_add_eq_or_of_lt (by omega) _
 have h2 : 2 ^ 26 * B + x % 67108864 = 2 ^ 26 * B ||| (x % 67108864) := Nat.two_pow_add_eq_or_of_lt (by omega) B
 have h3 : 2 ^ 30 * (x / 1073741824) + (2 ^ 26 * B + x % 67108864) = 2 ^ 30 * (x / 1073741824) ||| (2 ^ 26 * B + x % 67108864) := Nat.two_pow_add_eq_or_of_lt (by omega) _
 have e1 : (1073741824 : Nat) = 2 ^ 30 := rfl
 have e2 : (67108864 : Nat) * B = 2 ^ 26 * B := rfl
 rw [show 1073741824 * (x / 1073741824) = 2 ^ 30 * (x / 1073741824) from rfl, e2, h1, Nat.or_assoc, Nat.or_comm (x % 67108864), ← h2, ← h3]
def low8 (st : Int) : Nat := (st % 8).toNat
theorem low8_lt (st : Int) : low8 st < 8 := by unfold low8; omega
theorem wrap_emod (st : Int) : IntKind.u64.wrap st = st % 18446744073709551616 := by
 simp [IntKind.wrap, IntKind.signed, IntKind.bits]
theorem and7 (st : Int) : bits .and .u64 (IntKind.u64.wrap st) 7 = (low8 st : Int) := by
 rw [wrap_emod, show (7 : Int) = 2 ^ 3 - 1 from rfl, mask64 3 (by omega) _ (by omega) (by omega)]
 unfold low8
 omega
set_option maxHeartbeats 1000000 in
theorem Move_any (x : Nat) (st : Int) (b : Bool) (w : World) (hx : x < 18446744073709551616) :
  Calls Tryz.prog 179 #[.int .u64 (x : Int), .int .i64 st, .bool b] w fun e w' => e = .returned (.int .u64 (moveN x (low8 st) b : Int)) ∧ Below w.heap.size w w' := by
 obtain ⟨B, hB⟩ : ∃ B, bt b = B := ⟨_, rfl⟩
 have l1 := bt_le b
 rw [hB] at l1
 have E1 := Hid.mk' hB
 have hS := low8_lt st
 have ha := and7 st
 have hg1 : bits .andNot .u64 (x : Int) 1006632960 = ((1073741824 * (x / 1073741824) + x % 67108864 : Nat) : Int) := by
  rw [← clr_mid]
  exact go_clr x 1006632960 hx (by omega)
 have hC : 1073741824 * (x / 1073741824) + x % 67108864 < 18446744073709551616 := by omega
 have hg2 : bits .or .u64 ((1073741824 * (x / 1073741824) + x % 67108864 : Nat) : Int) ((B : Int) * 67108864) = ((1073741824 * (x / 1073741824) + (67108864 * B + x % 67108864) : Nat) : Int) := by
  rw [← or_26 x B l1, show ((B : Int) * 67108864) = ((67108864 * B : Nat) : Int) by omega]
  exact go_or _ _ hC (by omega)
 have hg3 : bits .or .u64 ((1073741824 * (x / 1073741824) + (67108864 * B + x % 67108864) : Nat) : Int) ((low8 st : Int) * 134217728) = ((moveN x (low8 st) b : Nat) : Int) := by
  rw [show ((low8 st : Int) * 134217728) = ((134217728 * low8 st : Nat) : Int) by omega]
  rw [go_or _ _ (by omega) (by omega), or_mid _ _ _ (by omega) hS]
  unfold moveN
  rw [hB]
  omega
 clear hB
 generalize (1073741824 * (x / 1073741824) + x % 67108864 : Nat) = C1 at *
 generalize (1073741824 * (x / 1073741824) + (67108864 * B + x % 67108864) : Nat) = C2 at *
 generalize moveN x (low8 st) b = C3 at *
 generalize low8 st = S at *
 go_enter Tryz.func179, Tryz.ntmps179
 go_wp2_with (go_at_call 199; refine (bit_q b B E1 _).mono ?_; rintro e w1 ⟨rfl, hb1⟩)
 go_ret
 exact ⟨rfl, hb1⟩
end Go.Proofs.YtfinmiakbpmjiaaGreat.St
