/-
  Shared words.
-/
import Derived.WalkKit
import Derived.ProofKit
import Derived.WalkLawsBesides
import Derived.WalkSpells
import Derived.OpenShut
import Derived.Deep.Slices
import Derived.Lib.SmallJoins
import Derived.Lib.QuietBelow
import Derived.StillTailTactics
import Derived.BigQuiet
import Derived.Laws.EntriesVeiled
import Derived.Laws.Rows
import Derived.Laws.Bits64b
import Derived.Laws.BitsLemmas
import Derived.IntWalk
import Derived.Orders
import Derived.StillTail
set_option linter.unusedSimpArgs false
set_option linter.unusedVariables false
set_option maxRecDepth 100000
namespace Go.Proofs.YtfinmiakbpmjiaaGreat
open Go.RowKit Go.ChangeShapes Go.WideShapes
theorem below_then {w w1 w2 : World} (h : Below w.heap.size w w1) (k : Below w1.heap.size w1 w2) : Below w.heap.size w w2 :=
 h.trans ⟨k.os, k.tape, k.output, k.size, fun i hi => k.block i (Nat.lt_of_lt_of_le hi h.size)⟩
theorem below_alloc {w W : World} (h : Below w.heap.size w W) (o : Obj) : Below w.heap.size w (W.alloc o) := h.alloc h.size o
theorem below_set {w W : World} (h : Below w.heap.size w W) {a : Addr} (ha : w.heap.size ≤ a.block) (v : Value) : Below w.heap.size w (W.setCell a v) := h.setCell ha v
theorem below_drew {w W : World} (h : Below w.heap.size w W) : Below w.heap.size w W.drew := ⟨h.os, h.tape, h.output, h.size, h.block⟩
theorem below_drewN {w W : World} (h : Below w.heap.size w W) (n : Nat) : Below w.heap.size w (W.drewN n) := ⟨h.os, h.tape, h.output, h.size, h.block⟩
theorem below_regrow {w W : World} (h : Below w.heap.size w W) (d : Nat) (os : Array Obj) : Below w.heap.size w (Go.Sort.grow (redrawn W d) os) := below_then h (below_regrown W d os)
theorem bcell {W w1 : World} (hb : Below W.heap.size W w1) : (∀ b o, b < W.heap.size → w1.cell? ⟨b, o, none⟩ = W.cell? ⟨b, o, none⟩) ∧ (∀ b o, b < W.heap.size → w1.frozen? ⟨b, o, none⟩ = W.frozen? ⟨b, o, none⟩) :=
 ⟨fun b o h => hb.cell (p := ⟨b, o, none⟩) h, fun b o h => hb.frozen (p := ⟨b, o, none⟩) h⟩
theorem quiet_call {P : Program} {f : FuncId} {args : Array Value} {w : World} {d : Nat} {os : Array Obj} {v : Value}
  (h : Calls P f args (Go.Sort.grow (redrawn w d) os) fun e w' => e = .returned v ∧ Below (Go.Sort.grow (redrawn w d) os).heap.size (Go.Sort.grow (redrawn w d) os) w') :
  Calls P f args (Go.Sort.grow (redrawn w d) os) fun e w'' => e = .returned v ∧ ∃ p : Regrown, w'' = Go.Sort.grow (redrawn w p.d) p.os := Calls.regrown_of h
theorem region_tail {P : Program} {id : Nat} {Q : Exit → Act → World → Prop} {a : Act} {w : World} {l : List Oper} (n : Nat) (hm : P.follows .mixedOrders = true) (hB : Region.lexTailB .any l.toArray n = true)
  (h : wpStill P l.toArray w.drew (fun a' => wpList P l.toArray Q (l.drop n) a' w.drew) (l.take n) a) : (Code.region id l.toArray true).wp P Q a w := wp_region_still_tail n hm hB h
theorem blk_lt {w : World} {g : Nat} {o : Obj} (h : w.heap[g]? = some o) : g < w.heap.size := (Array.getElem?_eq_some_iff.1 h).1
theorem blk_new (w : World) (o : Obj) : (w.alloc o).heap[w.heap.size]? = some o := heap_alloc_new w o
theorem blk_alloc {w : World} {g : Nat} {o : Obj} (h : w.heap[g]? = some o) (o' : Obj) : (w.alloc o').heap[g]? = some o := (Below.heap_alloc w o' g (blk_lt h)).trans h
theorem blk_drew {w : World} {g : Nat} {o : Obj} (h : w.heap[g]? = some o) : w.drew.heap[g]? = some o := h
theorem blk_below {w w1 : World} {g : Nat} {o : Obj} (h : w.heap[g]? = some o) (hb : Below w.heap.size w w1) : w1.heap[g]? = some o := (hb.block g (blk_lt h)).trans h
theorem blk_put {w : World} {g : Nat} {t : TypeId} {cs cs' : Array Value} (h : w.heap[g]? = some (.cells cs t (0, 0))) (i : Nat) (u : Value) (e : cs.setIfInBounds i u = cs') : (w.setCell ⟨g, i, none⟩ u).heap[g]? = some (.cells cs' t (0, 0)) := by
 subst e
 simp [World.setCell, Array.getElem?_modify, h]
theorem blk_far {w : World} {g : Nat} {o : Obj} (h : w.heap[g]? = some o) {p : Addr} (hp : g ≠ p.block) (u : Value) : (w.setCell p u).heap[g]? = some o := (Below.heap_setCell w p u g hp).trans h
theorem blk_cell {w : World} {g : Nat} {t : TypeId} {cs : Array Value} (h : w.heap[g]? = some (.cells cs t (0, 0))) (i : Nat) : w.cell? ⟨g, i, none⟩ = cs[i]? := by simp [World.cell?, h]
theorem blk_frozen {w : World} {g : Nat} {t : TypeId} {cs : Array Value} (h : w.heap[g]? = some (.cells cs t (0, 0))) (i : Nat) : w.frozen? ⟨g, i, none⟩ = false := by simp [World.frozen?, h]
theorem max2_int (k k' : IntKind) (x y : Int) : Builtin.max2 (.int k x) (.int k' y) = pure (.int k (if x < y then y else x)) := by simp only [Builtin.max2, gt_iff_lt]
theorem min2_int (k k' : IntKind) (x y : Int) : Builtin.min2 (.int k x) (.int k' y) = pure (.int k (if y < x then y else x)) := by simp only [Builtin.min2]
theorem max_two (ats : Array TypeId) (ty : TypeId) (a b : Value) : Builtin.max_ ats ty #[a, b] = (Builtin.max2 a b >>= fun s => pure s) := by simp only [Builtin.max_, List.foldlM_cons, List.foldlM_nil]
theorem min_two (ats : Array TypeId) (ty : TypeId) (a b : Value) : Builtin.min_ ats ty #[a, b] = (Builtin.min2 a b >>= fun s => pure s) := by simp only [Builtin.min_, List.foldlM_cons, List.foldlM_nil]
theorem run_equalIn_pair {P : Program} {w : World} (d : Nat) (t e : TypeId) (k k' : IntKind) (a b a' b' : Int)
  (ht : P.underlying t = some (.array 2 e)) (he : P.underlying e = some (.int k')) (hs : ∀ w, (sizeOf e).run P w = .ok 1 w) (hg : ∀ w, (isAgg e).run P w = .ok false w) :
  (Op.equalIn (d + 2) t (.agg #[.int k a, .int k b]) (.agg #[.int k a', .int k b'])).run P w = .ok (a == a' && b == b') w := by
 rw [Op.equalIn]
 simp only [Sem.run_bind, run_underlying ht, Result.andThen_ok, hs]
 simp [Std.Legacy.Range.forIn_eq_forIn_range', List.range', part, hg, run_equalIn_int _ d e k k' _ _ he]
 by_cases h : a = a'
 ·by_cases h' : b = b' <;> simp [h, h']
 ·simp [h]
theorem join64 (i : Nat) (x y : Int) (hx₀ : 0 ≤ x) (hx : x % 2 ^ i = 0) (hx₁ : x < 18446744073709551616) (hy₀ : 0 ≤ y) (hy : y < 2 ^ i) (hy₁ : y < 18446744073709551616) : bits .or .u64 x y = x + y :=
 bits_join .u64 64 (by decide) (fun n h h' => IntWalk.u64_in n (by omega)) i x y hx₀ hx (by omega) hy₀ hy (by omega)
theorem or_comm64 (x y : Int) : bits .or .u64 x y = bits .or .u64 y x := by
 simp only [bits]
 rw [BitVec.or_comm]
theorem mask64 (i : Nat) (hi : i ≤ 64) (x : Int) (h0 : 0 ≤ x) (h1 : x < 18446744073709551616) : bits .and .u64 x (2 ^ i - 1) = x % 2 ^ i :=
 bits_mask .u64 64 (by decide) (fun n h h' => IntWalk.u64_in n (by omega)) i hi x h0 (by omega)
section
variable {H : Type} {enc : TypeId × Value → H} {P : Program} {w : World} {spare : Nat → Bool} {held : Bool}
theorem add_add' (x : Addr) (i j : Nat) : (x.add i).add j = x.add (i + j) := by
 unfold Addr.add
 by_cases h : i = 0 <;> by_cases h' : j = 0 <;> simp [h, h'] <;> omega
end
theorem u64_bd {n : Int} (h : (Lit.int .u64 n).wf = true) : 0 ≤ n ∧ n < 18446744073709551616 := by
 simp [Lit.wf, IntKind.min, IntKind.max, IntKind.signed, IntKind.bits] at h
 omega
theorem i64_bd {n : Int} (h : (Lit.int .i64 n).wf = true) : -9223372036854775808 ≤ n ∧ n ≤ 9223372036854775807 := by
 simp [Lit.wf, IntKind.min, IntKind.max, IntKind.signed, IntKind.bits] at h
 omega
end Go.Proofs.YtfinmiakbpmjiaaGreat
namespace Go.Proofs.YtfinmiakbpmjiaaGreat
def clr (a b : Nat) : Nat := a ^^^ (a &&& b)
theorem testBit_clr (a b i : Nat) : (clr a b).testBit i = (a.testBit i && !b.testBit i) := by
 unfold clr
 rw [Nat.testBit_xor, Nat.testBit_and]
 cases a.testBit i <;> cases b.testBit i <;> rfl
theorem clr_le (a b : Nat) : clr a b ≤ a := by
 apply Nat.le_of_testBit
 intro i
 rw [testBit_clr]
 cases a.testBit i <;> simp
theorem testBit_pow (i j : Nat) : (2 ^ i).testBit j = decide (i = j) := by rw [Nat.testBit_two_pow]
theorem and_pow_pos (w i : Nat) : decide (0 < w &&& 2 ^ i) = w.testBit i := by
 cases h : w.testBit i with
 | true =>
  have : (w &&& 2 ^ i).testBit i = true := by rw [Nat.testBit_and, h, testBit_pow]; simp
  rw [decide_eq_true]
  rcases Nat.eq_zero_or_pos (w &&& 2 ^ i) with e | e
  ·rw [e] at this; simp at this
  ·exact e
 | false =>
  rw [decide_eq_false]
  have : w &&& 2 ^ i = 0 := by
   apply Nat.eq_of_testBit_eq
   intro j
   rw [Nat.testBit_and, testBit_pow]
   by_cases e : i = j
   ·subst e; simp [h]
   ·simp [e]
  omega
theorem lt_or {a b : Nat} (ha : a < 18446744073709551616) (hb : b < 18446744073709551616) : a ||| b < 18446744073709551616 := Nat.or_lt_two_pow (n := 64) ha hb
theorem lt_clr {a : Nat} (b : Nat) (ha : a < 18446744073709551616) : clr a b < 18446744073709551616 := Nat.lt_of_le_of_lt (clr_le a b) ha
theorem lt_pow {i : Nat} (h : i < 64) : 2 ^ i < 18446744073709551616 := Nat.pow_lt_pow_right (by omega) h
def pw (n : Nat) : Nat := 2 ^ n
theorem pw_eq (n : Nat) : pw n = 2 ^ n := rfl
theorem pw_lt {i : Nat} (h : i < 64) : pw i < 18446744073709551616 := lt_pow h
theorem pw_pos (n : Nat) : 1 ≤ pw n := Nat.two_pow_pos n
theorem go_and (a b : Nat) (ha : a < 18446744073709551616) (hb : b < 18446744073709551616) : bits .and .u64 (a : Int) (b : Int) = ((a &&& b : Nat) : Int) := bits_and_u64_nat a b ha hb
theorem go_or (a b : Nat) (ha : a < 18446744073709551616) (hb : b < 18446744073709551616) : bits .or .u64 (a : Int) (b : Int) = ((a ||| b : Nat) : Int) := bits_or_u64_nat a b ha hb
theorem go_clr (a b : Nat) (ha : a < 18446744073709551616) (hb : b < 18446744073709551616) : bits .andNot .u64 (a : Int) (b : Int) = ((clr a b : Nat) : Int) := by
 have h1 : (BitVec.ofInt 64 (a : Int)).toNat = a := by
  rw [BitVec.ofInt_natCast, BitVec.toNat_ofNat]; exact Nat.mod_eq_of_lt (by omega)
 have h2 : (BitVec.ofInt 64 (b : Int)).toNat = b := by
  rw [BitVec.ofInt_natCast, BitVec.toNat_ofNat]; exact Nat.mod_eq_of_lt (by omega)
 have h3 : (BitVec.ofInt 64 (a : Int) &&& ~~~ BitVec.ofInt 64 (b : Int)).toNat = clr a b := by
  apply Nat.eq_of_testBit_eq
  intro i
  rw [testBit_clr, BitVec.testBit_toNat, BitVec.getLsbD_and, BitVec.getLsbD_not, ← BitVec.testBit_toNat, ← BitVec.testBit_toNat, h1, h2]
  by_cases hi : i < 64
  ·simp [hi]
  ·have : a.testBit i = false := Nat.testBit_lt_two_pow (Nat.lt_of_lt_of_le (show a < 2 ^ 64 from ha) (Nat.pow_le_pow_right (by omega) (by omega)))
   simp [this]
 show IntKind.u64.wrap ((BitVec.ofInt 64 (a : Int) &&& ~~~ BitVec.ofInt 64 (b : Int)).toNat : Int) = _
 rw [h3]
 have := lt_clr b ha
 exact IntWalk.u64_in _ (by omega)
end Go.Proofs.YtfinmiakbpmjiaaGreat
namespace Go.Proofs.YtfinmiakbpmjiaaGreat.St
open Go.Proofs.YtfinmiakbpmjiaaGreat
open Go
section
variable {P : Program} {ops : Array Oper} {Q : Exit → Act → World → Prop} {md : Region.Mode}
theorem count_set {l : Array Bool} {i : Nat} (h : l.getD i true = false) : (l.setIfInBounds i true).toList.count false + 1 = l.toList.count false := by
 have hi : i < l.size := by
  rcases Nat.lt_or_ge i l.size with h' | h'
  ·exact h'
  ·simp [Array.getElem?_eq_none h'] at h
 have h2 : l.toList[i]'(by simpa using hi) = false := by simpa [hi] using h
 rw [Array.toList_setIfInBounds, List.count_set (by simpa using hi), h2]
 have : 0 < l.toList.count false := List.count_pos_iff.2 (h2 ▸ List.getElem_mem _)
 simp only [show (false == false) = true from rfl, show (true == false) = false from rfl, if_true, Bool.false_eq_true, if_false]
 omega
theorem wpAny_inv (I : Array Bool → Act → World → Prop)
  (hdone : ∀ l a w, I l a w → Region.ready md ops l = [] → Q .normal a w)
  (hstep : ∀ l a w i, I l a w → i ∈ Region.ready md ops l → wpOp P ops Q i (fun a' w' => I (l.setIfInBounds i true) a' w') a w) :
  ∀ (fuel : Nat) (l : Array Bool) (a : Act) (w : World), l.toList.count false ≤ fuel → I l a w → wpAny P md ops Q fuel l a w
 | 0, l, a, w, hc, h => by
  have h0 : Region.ready md ops l = [] := by
   cases hr : Region.ready md ops l with
   | nil => rfl
   | cons i rest =>
    have hi : i ∈ Region.ready md ops l := by rw [hr]; exact List.mem_cons_self
    have := count_set (mem_ready.1 hi).1
    omega
  exact ⟨h0, hdone _ _ _ h h0⟩
 | fuel + 1, l, a, w, hc, h => ⟨fun h0 => hdone _ _ _ h h0, fun i hi => wpOp_mono (fun a' w' h' => wpAny_inv I hdone hstep fuel _ a' w' (by have := count_set (mem_ready.1 hi).1; omega) h') (hstep l a w i h hi)⟩
def valAt (ops : Array Oper) (a : Act) (i : Nat) : Value := match (ops[i]?).bind (·.dst) with | some d => a.tmps.getD d undef | none => undef
def tidyB (md : Region.Mode) (ops : Array Oper) (n : Nat) : Bool :=
 (List.range ops.size).all fun i => match ops[i]? with
  | none => true
  | some o => o.guard.isNone && (o.after.all fun e => !Region.binds md e || decide (e.on < i)) && (match o.dst with | none => true | some d => decide (d < n)) &&
   (List.range ops.size).all fun j => i == j || match ops[j]? with
    | none => true
    | some o' => o.dst.isNone || o.dst != o'.dst
theorem tidy_spec {n : Nat} (h : tidyB md ops n = true) {i : Nat} {o : Oper} (hi : ops[i]? = some o) :
  o.guard = none ∧ (∀ e ∈ o.after, Region.binds md e = true → e.on < i) ∧ (∀ d, o.dst = some d → d < n) ∧ ∀ j o', i ≠ j → ops[j]? = some o' → ∀ d, o.dst = some d → o'.dst ≠ some d := by
 have hlt : i < ops.size := (Array.getElem?_eq_some_iff.1 hi).1
 unfold tidyB at h
 have h1 := List.all_eq_true.1 h i (List.mem_range.2 hlt)
 simp only [hi, Bool.and_eq_true] at h1
 obtain ⟨⟨⟨h2, h3⟩, h4⟩, h5⟩ := h1
 refine ⟨by simpa using h2, ?_, ?_, ?_⟩
 ·intro e he hb
  have := (Array.all_eq_true_iff_forall_mem.1 h3) e he
  simpa [hb] using this
 ·intro d hd
  rw [hd] at h4
  simpa using h4
 ·intro j o' hij hj d hd e
  have hjlt : j < ops.size := (Array.getElem?_eq_some_iff.1 hj).1
  have := List.all_eq_true.1 h5 j (List.mem_range.2 hjlt)
  simp only [hj, hd, e] at this
  simp [hij] at this
structure Sit (ops : Array Oper) (Φ : Nat → Value → World → Prop) (F : Act → Prop) (R : World → Prop) (l : Array Bool) (a : Act) (w : World) : Prop where
 size : l.size = ops.size
 fr : F a
 wd : R w
 ph : ∀ i, l.getD i false = true → Φ i (valAt ops a i) w
theorem valAt_put {n : Nat} (h : tidyB md ops n = true) {i j : Nat} {o : Oper} (hi : ops[i]? = some o) (hij : j ≠ i) (a : Act) (v : Value) : valAt ops (a.put o.dst v) j = valAt ops a j := by
 unfold valAt
 cases hj : ops[j]? with
 | none => simp
 | some oj =>
  simp only [Option.bind_some]
  cases hd : oj.dst with
  | none => rfl
  | some d =>
   simp only [Act.put]
   cases ho : o.dst with
   | none => rfl
   | some d' =>
    have := (tidy_spec h hi).2.2.2 j oj (Ne.symm hij) hj d' ho
    have hne : d' ≠ d := fun e => this (by rw [hd, e])
    simp [Array.getElem?_setIfInBounds, hne]
theorem valAt_own {n : Nat} (h : tidyB md ops n = true) {i : Nat} {o : Oper} (hi : ops[i]? = some o) (a : Act) (hs : a.tmps.size = n) (v : Value) (hv : o.dst = none → v = undef) : valAt ops (a.put o.dst v) i = v := by
 unfold valAt
 simp only [hi, Option.bind_some]
 cases hd : o.dst with
 | none => exact (hv hd).symm
 | some d =>
  have := (tidy_spec h hi).2.2.1 d hd
  simp [Act.put, Array.getElem?_setIfInBounds, hs, this]
theorem wp_region_sits {id : Nat} {a₀ : Act} {w₀ : World} {n : Nat} (hm : P.follows .mixedOrders = true) (Φ : Nat → Value → World → Prop) (F : Act → Prop) (R : World → Prop) (Rel : World → World → Prop)
  (ht : tidyB .any ops n = true) (hF : ∀ (a : Act) (i : Nat) (o : Oper) (v : Value), F a → ops[i]? = some o → F (a.put o.dst v)) (hsz : ∀ a, F a → a.tmps.size = n)
  (hst : ∀ i v w w', Rel w w' → Φ i v w → Φ i v w')
  (hrun : ∀ (i : Nat) (o : Oper), ops[i]? = some o → ∀ a w, F a → R w → (∀ e ∈ o.after, Region.binds .any e = true → Φ e.on (valAt ops a e.on) w) →
   o.wp P a w (fun a' w' => ∃ v, a' = a.put o.dst v ∧ (o.dst = none → v = undef) ∧ Rel w w' ∧ R w' ∧ Φ i v w') Q)
  (hdone : ∀ a w, F a → R w → (∀ i, i < ops.size → Φ i (valAt ops a i) w) → Q .normal a w)
  (h1 : F a₀) (h2 : R { w₀ with drawn := w₀.drawn + 1 }) : (Code.region id ops true).wp P Q a₀ w₀ := by
 refine wp_region_any hm (wpAny_inv (Sit ops Φ F R) ?_ ?_ _ _ _ _ ?_ ⟨by simp, h1, h2, ?_⟩)
 ·intro l a w hI hr
  refine hdone a w hI.fr hI.wd ?_
  have hall : ∀ k i, i < k → i < ops.size → l.getD i false = true := by
   intro k
   induction k with
   | zero => intro i hi; omega
   | succ k ih =>
    intro i hi hlt
    by_cases hl : l.getD i false = true
    ·exact hl
    ·exfalso
     have hin : i ∈ Region.ready .any ops l := by
      refine mem_ready.2 ⟨?_, ops[i], by simp [hlt], ?_⟩
      ·have : i < l.size := by rw [hI.size]; exact hlt
       simp [this] at hl ⊢
       exact hl
      ·intro e he hb
       have := (tidy_spec ht (show ops[i]? = some ops[i] by simp [hlt])).2.1 e he hb
       exact ih _ (by omega) (by omega)
     rw [hr] at hin
     cases hin
  exact fun i hi => hI.ph i (hall (i + 1) i (by omega) hi)
 ·intro l a w i hI hi
  obtain ⟨hun, o, ho, hdeps⟩ := mem_ready.1 hi
  unfold wpOp
  rw [ho]
  have hw : Region.wanted o (yielded ops a.tmps) = true := by
   unfold Region.wanted
   rw [(tidy_spec ht ho).1]
  simp only [hw, if_true]
  left
  refine Oper.wp_mono ?_ (hrun i o ho a w hI.fr hI.wd fun e he hb => hI.ph _ (hdeps e he hb))
  rintro a' w' ⟨v, rfl, hv, hrel, hR, hΦ⟩
  refine ⟨by simp [hI.size], hF _ _ _ _ hI.fr ho, hR, fun j hj => ?_⟩
  by_cases hji : j = i
  ·subst hji
   rw [valAt_own ht ho a (hsz a hI.fr) v hv]
   exact hΦ
  ·rw [valAt_put ht ho hji]
   refine hst _ _ _ _ hrel (hI.ph j ?_)
   simpa [Array.getElem?_setIfInBounds, Ne.symm hji] using hj
 ·simp
 ·intro i hi
  exfalso
  rw [Array.getD_eq_getD_getElem?, Array.getElem?_replicate] at hi
  split at hi <;> simp at hi
def Kept (n : Nat) (keep : List (Nat × Value)) (a : Act) : Prop := a.defers = [] ∧ a.tmps.size = n ∧ ∀ p ∈ keep, a.tmps.getD p.1 undef = p.2
def keptB (ops : Array Oper) (keep : List Nat) : Bool := ops.toList.all fun o => match o.dst with | none => true | some d => !keep.contains d
theorem kept_put {n : Nat} {keep : List (Nat × Value)} (h : keptB ops (keep.map (·.1)) = true) {a : Act} {i : Nat} {o : Oper} {v : Value} (hk : Kept n keep a) (hi : ops[i]? = some o) : Kept n keep (a.put o.dst v) := by
 obtain ⟨h1, h2, h3⟩ := hk
 have hm : o ∈ ops.toList := by
  obtain ⟨hlt, he⟩ := Array.getElem?_eq_some_iff.1 hi
  rw [← he]
  simp
 have h4 := List.all_eq_true.1 h o hm
 cases hd : o.dst with
 | none => exact ⟨h1, h2, h3⟩
 | some d =>
  rw [hd] at h4
  refine ⟨h1, by simp [Act.put, h2], fun p hp => ?_⟩
  have hne : d ≠ p.1 := fun e => by
   have : d ∈ keep.map (·.1) := by rw [e]; exact List.mem_map_of_mem hp
   simp [this] at h4
  have := h3 p hp
  simpa [Act.put, Array.getElem?_setIfInBounds, hne] using this
theorem wp_region_kept {id : Nat} {l : List Oper} {a₀ : Act} {w₀ : World} {n : Nat} (keep : List (Nat × Value)) (Φ : Nat → Value → World → Prop) (R : World → Prop) (Rel : World → World → Prop) (hm : P.follows .mixedOrders = true)
  (ht : tidyB .any l.toArray n = true) (hk : keptB l.toArray (keep.map (·.1)) = true)
  (hst : ∀ i v w w', Rel w w' → Φ i v w → Φ i v w')
  (hrun : ∀ (i : Nat) (o : Oper), l.toArray[i]? = some o → ∀ a w, Kept n keep a → R w → (∀ e ∈ o.after, Region.binds .any e = true → Φ e.on (valAt l.toArray a e.on) w) →
   o.wp P a w (fun a' w' => ∃ v, a' = a.put o.dst v ∧ (o.dst = none → v = undef) ∧ Rel w w' ∧ R w' ∧ Φ i v w') Q)
  (hdone : ∀ a w, Kept n keep a → R w → (∀ i, i < l.toArray.size → Φ i (valAt l.toArray a i) w) → Q .normal a w)
  (h1 : Kept n keep a₀) (h2 : R { w₀ with drawn := w₀.drawn + 1 }) : (Code.region id l.toArray true).wp P Q a₀ w₀ :=
 wp_region_sits hm Φ (Kept n keep) R Rel ht (fun a i o v hF hi => kept_put hk hF hi) (fun a hF => hF.2.1) hst hrun hdone h1 h2
end
end Go.Proofs.YtfinmiakbpmjiaaGreat.St
namespace Go.Proofs.YtfinmiakbpmjiaaGreat
open Go Go.Proofs.YtfinmiakbpmjiaaGreat.St
section
variable {P : Program} {Q : Exit → Act → World → Prop}
structure Stand (ops : Array Oper) (n : Nat) (keep : List (Nat × Value)) (Φ : Nat → Value → World → Prop) (R : Array Bool → Act → World → Prop) (l : Array Bool) (a : Act) (w : World) : Prop where
 size : l.size = ops.size
 fr : Kept n keep a
 wd : R l a w
 ph : ∀ i, l.getD i false = true → Φ i (valAt ops a i) w
theorem wp_region_stand {id : Nat} {l₀ : List Oper} {a₀ : Act} {w₀ : World} {n : Nat} (keep : List (Nat × Value)) (Φ : Nat → Value → World → Prop) (R : Array Bool → Act → World → Prop) (Rel : World → World → Prop) (hm : P.follows .mixedOrders = true)
  (ht : tidyB .any l₀.toArray n = true) (hk : keptB l₀.toArray (keep.map (·.1)) = true)
  (hst : ∀ i v w w', Rel w w' → Φ i v w → Φ i v w')
  (hrun : ∀ (i : Nat) (o : Oper), l₀.toArray[i]? = some o → ∀ l a w, Kept n keep a → R l a w → l.getD i true = false → (∀ j, l.getD j false = true → Φ j (valAt l₀.toArray a j) w) → (∀ e ∈ o.after, Region.binds .any e = true → l.getD e.on false = true) →
   o.wp P a w (fun a' w' => ∃ v, a' = a.put o.dst v ∧ (o.dst = none → v = undef) ∧ Rel w w' ∧ R (l.setIfInBounds i true) a' w' ∧ Φ i v w') Q)
  (hdone : ∀ l a w, Kept n keep a → R l a w → (∀ i, i < l₀.toArray.size → l.getD i false = true) → (∀ i, i < l₀.toArray.size → Φ i (valAt l₀.toArray a i) w) → Q .normal a w)
  (h1 : Kept n keep a₀) (h2 : R (Array.replicate l₀.toArray.size false) a₀ { w₀ with drawn := w₀.drawn + 1 }) : (Code.region id l₀.toArray true).wp P Q a₀ w₀ := by
 generalize l₀.toArray = ops at *
 refine wp_region_any hm (wpAny_inv (Stand ops n keep Φ R) ?_ ?_ _ _ _ _ ?_ ⟨by simp, h1, h2, ?_⟩)
 ·intro l a w hI hr
  have hall : ∀ k i, i < k → i < ops.size → l.getD i false = true := by
   intro k
   induction k with
   | zero => intro i hi; omega
   | succ k ih =>
    intro i hi hlt
    by_cases hl : l.getD i false = true
    ·exact hl
    ·exfalso
     have hin : i ∈ Region.ready .any ops l := by
      refine mem_ready.2 ⟨?_, ops[i], by simp [hlt], ?_⟩
      ·have : i < l.size := by rw [hI.size]; exact hlt
       simp [this] at hl ⊢
       exact hl
      ·intro e he hb
       have := (tidy_spec ht (show ops[i]? = some ops[i] by simp [hlt])).2.1 e he hb
       exact ih _ (by omega) (by omega)
     rw [hr] at hin
     cases hin
  exact hdone l a w hI.fr hI.wd (fun i hi => hall (i + 1) i (by omega) hi) fun i hi => hI.ph i (hall (i + 1) i (by omega) hi)
 ·intro l a w i hI hi
  obtain ⟨hun, o, ho, hdeps⟩ := mem_ready.1 hi
  unfold wpOp
  rw [ho]
  have hw : Region.wanted o (yielded ops a.tmps) = true := by
   unfold Region.wanted
   rw [(tidy_spec ht ho).1]
  simp only [hw, if_true]
  left
  refine Oper.wp_mono ?_ (hrun i o ho l a w hI.fr hI.wd hun hI.ph hdeps)
  rintro a' w' ⟨v, rfl, hv, hrel, hR, hΦ⟩
  refine ⟨by simp [hI.size], kept_put hk hI.fr ho, hR, fun j hj => ?_⟩
  by_cases hji : j = i
  ·subst hji
   rw [valAt_own ht ho a hI.fr.2.1 v hv]
   exact hΦ
  ·rw [valAt_put ht ho hji]
   refine hst _ _ _ _ hrel (hI.ph j ?_)
   simpa [Array.getElem?_setIfInBounds, Ne.symm hji] using hj
 ·simp
 ·intro i hi
  exfalso
  rw [Array.getD_eq_getD_getElem?, Array.getElem?_replicate] at hi
  split at hi <;> simp at hi
end
end Go.Proofs.YtfinmiakbpmjiaaGreat
namespace Go.Proofs.YtfinmiakbpmjiaaGreat
open Go Go.Sort
section
variable {P : Program} {md : Region.Mode} {ops : Array Oper} {C : World → Prop}
end
end Go.Proofs.YtfinmiakbpmjiaaGreat
