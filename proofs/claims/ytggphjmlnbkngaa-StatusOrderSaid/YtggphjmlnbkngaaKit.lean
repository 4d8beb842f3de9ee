/-
  Small words that all texts of this seat share: worlds that grow, min and max, '==' of two pairs, and how an argument that is a pair, a slice of numbers or a slice of pairs is opened. No program is named.
-/
import Derived.WalkKit
import Derived.ProofKit
import Derived.WalkLawsBesides
import Derived.WalkSpells
import Derived.OpenShut
import Derived.Deep.Slices
import Derived.Lib.SmallJoins
import Derived.Lib.QuietBelow
import Derived.StillTailTactics
import Derived.BigQuiet
import Derived.Laws.EntriesVeiled
import Derived.Laws.Rows
namespace Go.Proofs.Ytggphjmlnbkngaa
open Go.RowKit Go.ChangeShapes Go.WideShapes
set_option linter.unusedVariables false
set_option linter.unusedSimpArgs false

/-! ### Worlds -/
theorem below_then {w w1 w2 : World} (h : Below w.heap.size w w1) (k : Below w1.heap.size w1 w2) : Below w.heap.size w w2 :=
  h.trans ⟨k.os, k.tape, k.output, k.size, fun i hi => k.block i (Nat.lt_of_lt_of_le hi h.size)⟩
theorem below_alloc {w W : World} (h : Below w.heap.size w W) (o : Obj) : Below w.heap.size w (W.alloc o) := h.alloc h.size o
theorem below_set {w W : World} (h : Below w.heap.size w W) {a : Addr} (ha : w.heap.size ≤ a.block) (v : Value) : Below w.heap.size w (W.setCell a v) := h.setCell ha v
theorem below_drew {w W : World} (h : Below w.heap.size w W) : Below w.heap.size w W.drew := ⟨h.os, h.tape, h.output, h.size, h.block⟩
theorem below_drewN {w W : World} (h : Below w.heap.size w W) (n : Nat) : Below w.heap.size w (W.drewN n) := ⟨h.os, h.tape, h.output, h.size, h.block⟩
theorem below_regrow {w W : World} (h : Below w.heap.size w W) (d : Nat) (os : Array Obj) : Below w.heap.size w (Go.Sort.grow (redrawn W d) os) := below_then h (below_regrown W d os)
/-- Every old cell, and every old mark, reads behind a callee as before. -/
theorem bcell {W w1 : World} (hb : Below W.heap.size W w1) : (∀ b o, b < W.heap.size → w1.cell? ⟨b, o, none⟩ = W.cell? ⟨b, o, none⟩) ∧ (∀ b o, b < W.heap.size → w1.frozen? ⟨b, o, none⟩ = W.frozen? ⟨b, o, none⟩) :=
  ⟨fun b o h => hb.cell (p := ⟨b, o, none⟩) h, fun b o h => hb.frozen (p := ⟨b, o, none⟩) h⟩
/-- A callee's contract that ends in 'Below', inside a region that draws its order. -/
theorem quiet_call {P : Program} {f : FuncId} {args : Array Value} {w : World} {d : Nat} {os : Array Obj} {v : Value}
    (h : Calls P f args (Go.Sort.grow (redrawn w d) os) fun e w' => e = .returned v ∧ Below (Go.Sort.grow (redrawn w d) os).heap.size (Go.Sort.grow (redrawn w d) os) w') :
    Calls P f args (Go.Sort.grow (redrawn w d) os) fun e w'' => e = .returned v ∧ ∃ p : Regrown, w'' = Go.Sort.grow (redrawn w p.d) p.os := Calls.regrown_of h

/-- A region whose last operations come in one order: the world behind the draw under its name. -/
theorem region_tail {P : Program} {id : Nat} {Q : Exit → Act → World → Prop} {a : Act} {w : World} {l : List Oper} (n : Nat) (hm : P.follows .mixedOrders = true) (hB : Region.lexTailB .any l.toArray n = true)
    (h : wpStill P l.toArray w.drew (fun a' => wpList P l.toArray Q (l.drop n) a' w.drew) (l.take n) a) : (Code.region id l.toArray true).wp P Q a w := wp_region_still_tail n hm hB h

/-! ### A block that is known whole -/
theorem blk_lt {w : World} {g : Nat} {o : Obj} (h : w.heap[g]? = some o) : g < w.heap.size := (Array.getElem?_eq_some_iff.1 h).1
theorem blk_new (w : World) (o : Obj) : (w.alloc o).heap[w.heap.size]? = some o := heap_alloc_new w o
theorem blk_alloc {w : World} {g : Nat} {o : Obj} (h : w.heap[g]? = some o) (o' : Obj) : (w.alloc o').heap[g]? = some o := (Below.heap_alloc w o' g (blk_lt h)).trans h
theorem blk_drew {w : World} {g : Nat} {o : Obj} (h : w.heap[g]? = some o) : w.drew.heap[g]? = some o := h
theorem blk_below {w w1 : World} {g : Nat} {o : Obj} (h : w.heap[g]? = some o) (hb : Below w.heap.size w w1) : w1.heap[g]? = some o := (hb.block g (blk_lt h)).trans h
theorem blk_put {w : World} {g : Nat} {t : TypeId} {cs cs' : Array Value} (h : w.heap[g]? = some (.cells cs t (0, 0))) (i : Nat) (u : Value) (e : cs.setIfInBounds i u = cs') : (w.setCell ⟨g, i, none⟩ u).heap[g]? = some (.cells cs' t (0, 0)) := by
  subst e
  simp [World.setCell, Array.getElem?_modify, h]
theorem blk_far {w : World} {g : Nat} {o : Obj} (h : w.heap[g]? = some o) {p : Addr} (hp : g ≠ p.block) (u : Value) : (w.setCell p u).heap[g]? = some o := (Below.heap_setCell w p u g hp).trans h
theorem blk_cell {w : World} {g : Nat} {t : TypeId} {cs : Array Value} (h : w.heap[g]? = some (.cells cs t (0, 0))) (i : Nat) : w.cell? ⟨g, i, none⟩ = cs[i]? := by simp [World.cell?, h]
theorem blk_frozen {w : World} {g : Nat} {t : TypeId} {cs : Array Value} (h : w.heap[g]? = some (.cells cs t (0, 0))) (i : Nat) : w.frozen? ⟨g, i, none⟩ = false := by simp [World.frozen?, h]

/-! ### min, max -/
theorem max2_int (k k' : IntKind) (x y : Int) : Builtin.max2 (.int k x) (.int k' y) = pure (.int k (if x < y then y else x)) := by simp only [Builtin.max2, gt_iff_lt]
theorem min2_int (k k' : IntKind) (x y : Int) : Builtin.min2 (.int k x) (.int k' y) = pure (.int k (if y < x then y else x)) := by simp only [Builtin.min2]
theorem max_two (ats : Array TypeId) (ty : TypeId) (a b : Value) : Builtin.max_ ats ty #[a, b] = (Builtin.max2 a b >>= fun s => pure s) := by simp only [Builtin.max_, List.foldlM_cons, List.foldlM_nil]
theorem min_two (ats : Array TypeId) (ty : TypeId) (a b : Value) : Builtin.min_ ats ty #[a, b] = (Builtin.min2 a b >>= fun s => pure s) := by simp only [Builtin.min_, List.foldlM_cons, List.foldlM_nil]

/-! ### '==' of two arrays of two numbers -/
theorem run_equalIn_pair {P : Program} {w : World} (d : Nat) (t e : TypeId) (k k' : IntKind) (a b a' b' : Int)
    (ht : P.underlying t = some (.array 2 e)) (he : P.underlying e = some (.int k')) (hs : ∀ w, (sizeOf e).run P w = .ok 1 w) (hg : ∀ w, (isAgg e).run P w = .ok false w) :
    (Op.equalIn (d + 2) t (.agg #[.int k a, .int k b]) (.agg #[.int k a', .int k b'])).run P w = .ok (a == a' && b == b') w := by
  rw [Op.equalIn]
  simp only [Sem.run_bind, run_underlying ht, Result.andThen_ok, hs]
  simp [Std.Legacy.Range.forIn_eq_forIn_range', List.range', part, hg, run_equalIn_int _ d e k k' _ _ he]
  by_cases h : a = a'
  · by_cases h' : b = b' <;> simp [h, h']
  · simp [h]

/-! ### Bits of numbers from 0 to 2^64 - 1 -/
theorem join64 (i : Nat) (x y : Int) (hx₀ : 0 ≤ x) (hx : x % 2 ^ i = 0) (hx₁ : x < 18446744073709551616) (hy₀ : 0 ≤ y) (hy : y < 2 ^ i) (hy₁ : y < 18446744073709551616) : bits .or .u64 x y = x + y :=
  bits_join .u64 64 (by decide) (fun n h h' => IntWalk.u64_in n (by omega)) i x y hx₀ hx (by omega) hy₀ hy (by omega)
theorem or_comm64 (x y : Int) : bits .or .u64 x y = bits .or .u64 y x := by
  simp only [bits]
  rw [BitVec.or_comm]
theorem and_comm64 (x y : Int) : bits .and .u64 x y = bits .and .u64 y x := by
  simp only [bits]
  rw [BitVec.and_comm]
theorem mask64 (i : Nat) (hi : i ≤ 64) (x : Int) (h0 : 0 ≤ x) (h1 : x < 18446744073709551616) : bits .and .u64 x (2 ^ i - 1) = x % 2 ^ i :=
  bits_mask .u64 64 (by decide) (fun n h h' => IntWalk.u64_in n (by omega)) i hi x h0 (by omega)

/-! ### Arguments -/
section
variable {H : Type} {enc : TypeId × Value → H} {P : Program} {w : World} {spare : Nat → Bool} {held : Bool}
theorem okWide_array' {n : Nat} {e : TypeId} {r : Reach} {base : Nat} {t : TypeId} {v : Value} (ht : P.underlying t = some (.array n e)) (h : Value.okWide P w r base t v) : ∃ cs, v = .agg cs ∧ cs.size = P.cellsOf t := by
  simp only [Value.okWide, ht] at h
  obtain ⟨cs, h1, h2, _⟩ := h
  exact ⟨cs, h1, h2⟩
/-- The cells of an array of two numbers. -/
theorem trod_pair {t e : TypeId} {base fuel : Nat} {cs : List Value} {x : DataW H × List MemPlace} (ht : P.underlying t = some (.array 2 e)) (he : P.underlying e = some (.int .i64)) (hc : P.cellsOf t = 2) (ce : P.cellsOf e = 1)
    (h : DataW.trod enc P w base spare held fuel t cs = some x) : ∃ a b : Int, cs = [.int .i64 a, .int .i64 b] ∧ (Lit.int .i64 a).wf = true ∧ (Lit.int .i64 b).wf = true := by
  obtain ⟨xs, m, _, _, hl, hn, hall⟩ := DataW.trod_array ht h
  rw [hc] at hl
  match cs, hl, xs, hn with
  | [c0, c1], _, [y0, y1], _ =>
    have h0 := hall 0 (by omega)
    have h1 := hall 1 (by omega)
    simp [ce] at h0 h1
    obtain ⟨a, e0, _, wa⟩ := DataW.trod_int he h0
    obtain ⟨b, e1, _, wb⟩ := DataW.trod_int he h1
    simp at e0 e1
    exact ⟨a, b, by simp [e0, e1], wa, wb⟩
theorem open_pair {t e : TypeId} {r : Reach} {base b0 : Nat} {v : Value} {d : DataW H} {p : List MemPlace} (ht : P.underlying t = some (.array 2 e)) (he : P.underlying e = some (.int .i64)) (hc : P.cellsOf t = 2) (ce : P.cellsOf e = 1)
    (hv : Value.okWide P w r b0 t v) (h : DataW.Trod enc P w base spare held t v d p) : ∃ a b : Int, v = .agg #[.int .i64 a, .int .i64 b] ∧ (Lit.int .i64 a).wf = true ∧ (Lit.int .i64 b).wf = true := by
  obtain ⟨cs, rfl, _⟩ := okWide_array' ht hv
  obtain ⟨fuel, hf⟩ := h
  obtain ⟨a, b, e1, wa, wb⟩ := trod_pair ht he hc ce hf
  refine ⟨a, b, ?_, wa, wb⟩
  simp only [Value.cells] at e1
  have : cs = #[.int .i64 a, .int .i64 b] := by apply Array.toList_inj.1; simpa using e1
  rw [this]
/-- A slice of numbers that is only read: its first 'len' elements. -/
def IsInts (k : IntKind) (w : World) (a : Option Addr) (len : Nat) (zs : List Int) : Prop :=
  zs.length = len ∧ len ≤ maxLen ∧ (∀ i, i < len → (Lit.int k (zs.getD i 0)).wf = true) ∧ (0 < len → ∃ x, a = some x ∧ ∀ i, i < len → w.cell? (x.add i) = some (.int k (zs.getD i 0)))
theorem isInts_of {t e : TypeId} {k : IntKind} {base len cap : Nat} {a : Option Addr} {d : DataW H} {p : List MemPlace} (ht : P.underlying t = some (.slice e)) (he : P.underlying e = some (.int k)) (hc : P.cellsOf e = 1)
    (h : DataW.Trod enc P w base (fun _ => true) held t (.slice a len cap) d p) : ∃ zs, IsInts k w a len zs := by
  obtain ⟨fuel, hf⟩ := h
  rcases open_ints ht he hc hf with ⟨hcs, _⟩ | ⟨x, l, c, zs, hcs, _, hl, hm, hz, _, hcell, hwz⟩
  · simp [Value.cells] at hcs
    obtain ⟨rfl, rfl, rfl⟩ := hcs
    exact ⟨[], rfl, by simp, fun i hi => by omega, fun h => by omega⟩
  · simp [Value.cells] at hcs
    obtain ⟨rfl, rfl, rfl⟩ := hcs
    simp only [if_true] at hz
    have hg : ∀ i, i < len → (zs.take len).getD i 0 = zs.getD i 0 := fun i hi => by
      simp [List.getD_eq_getElem?_getD, List.getElem?_take, hi]
    refine ⟨zs.take len, by rw [List.length_take]; omega, by omega, fun i hi => ?_, fun _ => ⟨x, rfl, fun i hi => ?_⟩⟩
    · rw [hg i hi]
      have hi' : i < zs.length := by omega
      have : zs.getD i 0 = zs[i] := by simp [List.getD_eq_getElem?_getD, hi']
      rw [this]
      exact hwz _ (List.getElem_mem _)
    · rw [hg i hi]
      exact hcell i (by omega)
/-- A slice of pairs of numbers that is only read. -/
def IsPairs (w : World) (a : Option Addr) (len : Nat) (zs : List (Int × Int)) : Prop :=
  zs.length = len ∧ len ≤ maxLen ∧ (∀ i, i < len → (Lit.int .i64 (zs.getD i (0, 0)).1).wf = true ∧ (Lit.int .i64 (zs.getD i (0, 0)).2).wf = true) ∧
    (0 < len → ∃ x, a = some x ∧ ∀ i, i < len → w.cell? (x.add (i * 2)) = some (.int .i64 (zs.getD i (0, 0)).1) ∧ w.cell? (x.add (i * 2 + 1)) = some (.int .i64 (zs.getD i (0, 0)).2))
theorem add_add' (x : Addr) (i j : Nat) : (x.add i).add j = x.add (i + j) := by
  unfold Addr.add
  by_cases h : i = 0 <;> by_cases h' : j = 0 <;> simp [h, h'] <;> omega
theorem isPairs_of {t e f : TypeId} {base len cap : Nat} {a : Option Addr} {d : DataW H} {p : List MemPlace} (ht : P.underlying t = some (.slice e)) (he : P.underlying e = some (.array 2 f)) (hf : P.underlying f = some (.int .i64)) (ce : P.cellsOf e = 2) (cf : P.cellsOf f = 1)
    (h : DataW.Trod enc P w base (fun _ => true) held t (.slice a len cap) d p) : ∃ zs, IsPairs w a len zs := by
  obtain ⟨fuel, hh⟩ := h
  rcases Go.Deep.open_slice ht hh with ⟨hcs, _⟩ | ⟨x, l, c, m, n, D, Pl, hcs, _, hl, hm, hmm, _, hx⟩
  · simp [Value.cells] at hcs
    obtain ⟨rfl, rfl, rfl⟩ := hcs
    exact ⟨[], rfl, by simp, fun i hi => by omega, fun h => by omega⟩
  · simp [Value.cells] at hcs
    obtain ⟨rfl, rfl, rfl⟩ := hcs
    simp only [if_true] at hmm
    have each : ∀ i, i < len → ∃ q : Int × Int, w.cell? (x.add (i * 2)) = some (.int .i64 q.1) ∧ w.cell? (x.add (i * 2 + 1)) = some (.int .i64 q.2) ∧ (Lit.int .i64 q.1).wf = true ∧ (Lit.int .i64 q.2).wf = true := by
      intro i hi
      obtain ⟨cs', h1, h2⟩ := hx i (by omega)
      obtain ⟨z0, z1, rfl, w0, w1⟩ := trod_pair he hf ce cf h2
      rw [ce] at h1
      obtain ⟨_, _, hcell⟩ := World.cells?_some h1
      have e0 := hcell 0 (by omega)
      have e1 := hcell 1 (by omega)
      rw [add_add'] at e0 e1
      exact ⟨(z0, z1), by simpa using e0, by simpa using e1, w0, w1⟩
    obtain ⟨q, hq⟩ := Go.Deep.choose_lt each
    have hg : ∀ i, i < len → ((List.range len).map q).getD i (0, 0) = q i := fun i hi => by
      simp [List.getD_eq_getElem?_getD, hi]
    refine ⟨(List.range len).map q, by simp, by omega, fun i hi => ?_, fun _ => ⟨x, rfl, fun i hi => ?_⟩⟩
    · rw [hg i hi]; exact ⟨(hq i hi).2.2.1, (hq i hi).2.2.2⟩
    · rw [hg i hi]; exact ⟨(hq i hi).1, (hq i hi).2.1⟩
end
theorem u64_bd {n : Int} (h : (Lit.int .u64 n).wf = true) : 0 ≤ n ∧ n < 18446744073709551616 := by
  simp [Lit.wf, IntKind.min, IntKind.max, IntKind.signed, IntKind.bits] at h
  omega
theorem i64_bd {n : Int} (h : (Lit.int .i64 n).wf = true) : -9223372036854775808 ≤ n ∧ n ≤ 9223372036854775807 := by
  simp [Lit.wf, IntKind.min, IntKind.max, IntKind.signed, IntKind.bits] at h
  omega
end Go.Proofs.Ytggphjmlnbkngaa
