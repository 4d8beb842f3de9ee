/-
  status.Unpack, under its contract: the seven parts of a word.
-/
import Derived.Test.YtggphjmlnbkngaaB
namespace Go.Proofs.Ytggphjmlnbkngaa
open Go.RowKit
set_option linter.unusedVariables false
set_option linter.unusedSimpArgs false
/-- The seven parts of a word. -/
def partsV (x : Nat) : Array Value := #[.int .i64 (numW x 30 32 : Int), .int .i64 (numW x 27 3 : Int), .bool (x.testBit 26), .bool (x.testBit 25), .bool (x.testBit 24), .int .i64 (numW x 12 12 : Int), .int .i64 (numW x 0 12 : Int)]
/-- Of what was there nothing has turned, but for one block. -/
structure But1 (rb : Nat) (w w' : World) : Prop where
  os : w'.os = w.os
  tape : w'.tape = w.tape
  output : w'.output = w.output
  size : w.heap.size ≤ w'.heap.size
  block : ∀ k, k < w.heap.size → k ≠ rb → w'.heap[k]? = w.heap[k]?
theorem But1.of {rb : Nat} {w w' : World} (h : Below w.heap.size w w') : But1 rb w w' := ⟨h.os, h.tape, h.output, h.size, fun k hk _ => h.block k hk⟩
theorem But1.trans {rb : Nat} {w w1 w2 : World} (h : But1 rb w w1) (k : But1 rb w1 w2) : But1 rb w w2 := ⟨k.os.trans h.os, k.tape.trans h.tape, k.output.trans h.output, Nat.le_trans h.size k.size, fun i hi hn => (k.block i (Nat.lt_of_lt_of_le hi h.size) hn).trans (h.block i hi hn)⟩
theorem But1.cell {rb g : Nat} {w w' : World} {v : Value} (h : But1 rb w w') (hn : g ≠ rb) (c : w.cell? ⟨g, 0, none⟩ = some v) : w'.cell? ⟨g, 0, none⟩ = some v := by
  have := h.block g (World.block_lt_of_cell? _ _ c) hn
  unfold World.cell? at *
  simpa [this] using c
theorem But1.set {rb : Nat} {w W : World} (h : But1 rb w W) (i : Nat) (v : Value) : But1 rb w (W.setCell ⟨rb, i, none⟩ v) := ⟨h.os, h.tape, h.output, by simpa using h.size, fun k hk hn => (Below.heap_setCell W ⟨rb, i, none⟩ v k hn).trans (h.block k hk hn)⟩
/-- And the result, once it is laid, stays. -/
structure UnS (x rb : Nat) (w w' : World) : Prop where
  but : But1 rb w w'
  fin : w.heap[rb]? = some (.cells (partsV x) 27 (0, 0)) → w'.heap[rb]? = some (.cells (partsV x) 27 (0, 0))
theorem UnS.of {x rb : Nat} {w w' : World} (h : Below w.heap.size w w') : UnS x rb w w' := ⟨.of h, fun c => blk_below c h⟩
def IsPartN (rb : Nat) (f m : Int) (v : Value) (w : World) : Prop := ∃ g h : Nat, v = .func (.func 34) #[] #[.pointer (some ⟨g, 0, none⟩), .pointer (some ⟨h, 0, none⟩)] ∧ g ≠ rb ∧ h ≠ rb ∧ w.cell? ⟨g, 0, none⟩ = some (.int .i64 f) ∧ w.cell? ⟨h, 0, none⟩ = some (.int .i64 m)
theorem IsPartN.keep {rb : Nat} {f m : Int} {v : Value} {w w' : World} (h : IsPartN rb f m v w) (hb : But1 rb w w') : IsPartN rb f m v w' := by
  obtain ⟨g, k, rfl, n1, n2, c1, c2⟩ := h
  exact ⟨g, k, rfl, n1, n2, hb.cell n1 c1, hb.cell n2 c2⟩
theorem part_isN (rb : Nat) (f m : Int) (w : World) (hr : rb < w.heap.size) : Calls Try.prog 29 #[.int .i64 f, .int .i64 m] w fun e w' => ∃ v, e = .returned v ∧ IsPartN rb f m v w' ∧ Below w.heap.size w w' := by
  refine (part_any f m w).mono ?_
  rintro e w' ⟨rfl, rfl⟩
  refine ⟨_, rfl, ⟨_, _, rfl, by omega, by omega, ?_, ?_⟩, below_alloc (below_alloc (Below.refl _ _) _) _⟩
  · exact blk_cell (blk_alloc (blk_new w (.cells #[.int .i64 f] 3)) (.cells #[.int .i64 m] 3)) 0
  · simp
/-- What the operations of Unpack's region leave. -/
def unΦ (x xb rb : Nat) : Nat → Value → World → Prop
  | 0, v, w => IsPartN rb 30 32 v w
  | 1, v, _ => v = .int .u64 (x : Int)
  | 2, v, _ => v = .int .i64 (numW x 30 32 : Int)
  | 3, v, w => IsPartN rb 27 3 v w
  | 4, v, _ => v = .int .u64 (x : Int)
  | 5, v, _ => v = .int .i64 (numW x 27 3 : Int)
  | 6, v, _ => v = .func (.func 28) #[] #[.pointer (some ⟨xb, 0, none⟩)]
  | 7, v, _ => v = .bool (x.testBit 26)
  | 8, v, _ => v = .func (.func 28) #[] #[.pointer (some ⟨xb, 0, none⟩)]
  | 9, v, _ => v = .bool (x.testBit 25)
  | 10, v, _ => v = .func (.func 28) #[] #[.pointer (some ⟨xb, 0, none⟩)]
  | 11, v, _ => v = .bool (x.testBit 24)
  | 12, v, w => IsPartN rb 12 12 v w
  | 13, v, _ => v = .int .u64 (x : Int)
  | 14, v, _ => v = .int .i64 (numW x 12 12 : Int)
  | 15, v, w => IsPartN rb 0 12 v w
  | 16, v, _ => v = .int .u64 (x : Int)
  | 17, v, _ => v = .int .i64 (numW x 0 12 : Int)
  | 18, v, _ => v = .agg (partsV x)
  | 19, _, w => w.heap[rb]? = some (.cells (partsV x) 27 (0, 0))
  | _, _, _ => True
/-- The world of Unpack's region. -/
structure UnR (x xb rb : Nat) (w0 w : World) : Prop where
  but : But1 rb w0 w
  box : w.cell? ⟨xb, 0, none⟩ = some (.int .u64 (x : Int))
  res : ∃ c0 c1 c2 c3 c4 c5 c6 : Value, w.heap[rb]? = some (.cells #[c0, c1, c2, c3, c4, c5, c6] 27 (0, 0))
theorem UnR.grow {x xb rb : Nat} {w0 w w' : World} (h : UnR x xb rb w0 w) (hn : xb ≠ rb) (hb : Below w.heap.size w w') : UnR x xb rb w0 w' := by
  obtain ⟨c0, c1, c2, c3, c4, c5, c6, hc⟩ := h.res
  exact ⟨h.but.trans (.of hb), (But1.of (rb := rb) hb).cell hn h.box, c0, c1, c2, c3, c4, c5, c6, blk_below hc hb⟩
set_option maxHeartbeats 4000000 in
theorem Unpack_any (x : Nat) (w : World) (hx : x < 18446744073709551616) : Calls Try.prog 13 #[.int .u64 (x : Int)] w fun e w' => e = .returned (.agg (partsV x)) ∧ Below w.heap.size w w' := by
  have hmf : ∀ (fn : Fn) (first cap : Array Value) (w : World), (Instr.makeFunc fn first cap).run Try.prog w = .ok (.func fn first cap) w := fun _ _ _ _ => rfl
  go_enter Try.func13, Try.ntmps13
  go_wp2_with fail
  rename_i Q' K hK
  have b1 := blk_alloc (blk_new w (.cells #[.int .u64 (x : Int)] 24)) (.cells #[.int .i64 0, .int .i64 0, .bool false, .bool false, .bool false, .int .i64 0, .int .i64 0] 27)
  have b2 := blk_new (w.alloc (.cells #[.int .u64 (x : Int)] 24)) (.cells #[.int .i64 0, .int .i64 0, .bool false, .bool false, .bool false, .int .i64 0, .int .i64 0] 27)
  have hsz : (w.alloc (.cells #[.int .u64 (x : Int)] 24)).heap.size = w.heap.size + 1 := by simp
  rw [hsz] at b2
  have hW := below_alloc (below_alloc (Below.refl w.heap.size w) (.cells #[.int .u64 (x : Int)] 24)) (.cells #[.int .i64 0, .int .i64 0, .bool false, .bool false, .bool false, .int .i64 0, .int .i64 0] 27)
  generalize (w.alloc (Obj.cells #[Value.int IntKind.u64 (x : Int)] 24)).alloc (.cells #[.int .i64 0, .int .i64 0, .bool false, .bool false, .bool false, .int .i64 0, .int .i64 0] 27) = W at *
  have hrb : Hid (w.heap.size < w.heap.size + 1) := Hid.mk' (by omega)
  have hne : w.heap.size ≠ w.heap.size + 1 := by omega
  have hge : w.heap.size ≤ w.heap.size + 1 := by omega
  have hown : ∀ k, k < w.heap.size → k ≠ w.heap.size + 1 := fun k hk => by omega
  clear hsz hmf hge
  generalize w.heap.size + 1 = rb at *
  generalize hxb : w.heap.size = xb at *
  have kW : xb < W.heap.size := blk_lt b1
  refine wp_region_kept (n := 24) [(1, .pointer (some ⟨xb, 0, none⟩)), (2, .pointer (some ⟨rb, 0, none⟩)), (3, .func (.func 28) #[] #[.pointer (some ⟨xb, 0, none⟩)])] (unΦ x xb rb) (UnR x xb rb W) (UnS x rb) rfl (by kernel_rfl) (by kernel_rfl) ?_ ?_ ?_ ?_ ?_
  · intro i v w w' hb h
    match i, h with
    | 0, h => exact IsPartN.keep h hb.but
    | 1, h => exact h
    | 2, h => exact h
    | 3, h => exact IsPartN.keep h hb.but
    | 4, h => exact h
    | 5, h => exact h
    | 6, h => exact h
    | 7, h => exact h
    | 8, h => exact h
    | 9, h => exact h
    | 10, h => exact h
    | 11, h => exact h
    | 12, h => exact IsPartN.keep h hb.but
    | 13, h => exact h
    | 14, h => exact h
    | 15, h => exact IsPartN.keep h hb.but
    | 16, h => exact h
    | 17, h => exact h
    | 18, h => exact h
    | 19, h => exact hb.fin h
    | n + 20, h => trivial
  · intro i o hi a w' hk hR hd
    have k1 : a.tmps.getD 1 undef = .pointer (some ⟨xb, 0, none⟩) := hk.2.2 (1, .pointer (some ⟨xb, 0, none⟩)) (by simp)
    have k2 : a.tmps.getD 2 undef = .pointer (some ⟨rb, 0, none⟩) := hk.2.2 (2, .pointer (some ⟨rb, 0, none⟩)) (by simp)
    have k3 : a.tmps.getD 3 undef = .func (.func 28) #[] #[.pointer (some ⟨xb, 0, none⟩)] := hk.2.2 (3, .func (.func 28) #[] #[.pointer (some ⟨xb, 0, none⟩)]) (by simp)
    have hlt : rb < w'.heap.size := by obtain ⟨c0, c1, c2, c3, c4, c5, c6, hc⟩ := hR.res; exact blk_lt hc
    have cx := hR.box
    clear hk
    match i, hi with
    | 0, hi =>
      obtain rfl := Option.some.inj (show some _ = some o from hi)
      clear hd hi
      unfold Oper.wp
      simp [execOp, Act.eval, go_sem]
      refine (part_isN rb _ _ _ hlt).mono ?_
      rintro e w1 ⟨v, rfl, hv, hb⟩
      exact ⟨v, rfl, .of hb, hR.grow hne hb, hv⟩
    | 1, hi =>
      obtain rfl := Option.some.inj (show some _ = some o from hi)
      clear hd hi
      simp only [Array.getD_eq_getD_getElem?] at k1
      unfold Oper.wp
      simp [execOp, Act.eval, go_sem, k1, cx]
      exact ⟨_, rfl, .of (Below.refl _ _), hR, rfl⟩
    | 2, hi =>
      obtain rfl := Option.some.inj (show some _ = some o from hi)
      have d1 : IsPartN rb 30 32 (a.tmps.getD 5 undef) w' := hd ⟨0, .data⟩ (by simp) rfl
      have d2 : a.tmps.getD 6 undef = .int .u64 (x : Int) := hd ⟨1, .data⟩ (by simp) rfl
      clear hd hi
      obtain ⟨g1, g2, e1, _, _, c2, c3⟩ := d1
      simp only [Array.getD_eq_getD_getElem?] at e1 d2
      unfold Oper.wp
      simp [execOp, Act.eval, go_sem, e1, d2]
      refine (read_any x 30 32 _ _ _ hx (by omega) (by omega) c2 c3).mono ?_
      rintro e w1 ⟨rfl, hb⟩
      exact ⟨_, rfl, .of hb, hR.grow hne hb, rfl⟩
    | 3, hi =>
      obtain rfl := Option.some.inj (show some _ = some o from hi)
      clear hd hi
      unfold Oper.wp
      simp [execOp, Act.eval, go_sem]
      refine (part_isN rb _ _ _ hlt).mono ?_
      rintro e w1 ⟨v, rfl, hv, hb⟩
      exact ⟨v, rfl, .of hb, hR.grow hne hb, hv⟩
    | 4, hi =>
      obtain rfl := Option.some.inj (show some _ = some o from hi)
      clear hd hi
      simp only [Array.getD_eq_getD_getElem?] at k1
      unfold Oper.wp
      simp [execOp, Act.eval, go_sem, k1, cx]
      exact ⟨_, rfl, .of (Below.refl _ _), hR, rfl⟩
    | 5, hi =>
      obtain rfl := Option.some.inj (show some _ = some o from hi)
      have d1 : IsPartN rb 27 3 (a.tmps.getD 8 undef) w' := hd ⟨3, .data⟩ (by simp) rfl
      have d2 : a.tmps.getD 9 undef = .int .u64 (x : Int) := hd ⟨4, .data⟩ (by simp) rfl
      clear hd hi
      obtain ⟨g1, g2, e1, _, _, c2, c3⟩ := d1
      simp only [Array.getD_eq_getD_getElem?] at e1 d2
      unfold Oper.wp
      simp [execOp, Act.eval, go_sem, e1, d2]
      refine (read_any x 27 3 _ _ _ hx (by omega) (by omega) c2 c3).mono ?_
      rintro e w1 ⟨rfl, hb⟩
      exact ⟨_, rfl, .of hb, hR.grow hne hb, rfl⟩
    | 6, hi =>
      obtain rfl := Option.some.inj (show some _ = some o from hi)
      exact ⟨_, rfl, nofun, .of (Below.refl _ _), hR, k3⟩
    | 7, hi =>
      obtain rfl := Option.some.inj (show some _ = some o from hi)
      have d1 : a.tmps.getD 11 undef = .func (.func 28) #[] #[.pointer (some ⟨xb, 0, none⟩)] := hd ⟨6, .data⟩ (by simp) rfl
      clear hd hi
      simp only [Array.getD_eq_getD_getElem?] at d1
      unfold Oper.wp
      simp [execOp, Act.eval, go_sem, d1]
      refine (is_any x 26 _ _ hx (by omega) cx).mono ?_
      rintro e w1 ⟨rfl, hb⟩
      exact ⟨_, rfl, .of hb, hR.grow hne hb, rfl⟩
    | 8, hi =>
      obtain rfl := Option.some.inj (show some _ = some o from hi)
      exact ⟨_, rfl, nofun, .of (Below.refl _ _), hR, k3⟩
    | 9, hi =>
      obtain rfl := Option.some.inj (show some _ = some o from hi)
      have d1 : a.tmps.getD 13 undef = .func (.func 28) #[] #[.pointer (some ⟨xb, 0, none⟩)] := hd ⟨8, .data⟩ (by simp) rfl
      clear hd hi
      simp only [Array.getD_eq_getD_getElem?] at d1
      unfold Oper.wp
      simp [execOp, Act.eval, go_sem, d1]
      refine (is_any x 25 _ _ hx (by omega) cx).mono ?_
      rintro e w1 ⟨rfl, hb⟩
      exact ⟨_, rfl, .of hb, hR.grow hne hb, rfl⟩
    | 10, hi =>
      obtain rfl := Option.some.inj (show some _ = some o from hi)
      exact ⟨_, rfl, nofun, .of (Below.refl _ _), hR, k3⟩
    | 11, hi =>
      obtain rfl := Option.some.inj (show some _ = some o from hi)
      have d1 : a.tmps.getD 15 undef = .func (.func 28) #[] #[.pointer (some ⟨xb, 0, none⟩)] := hd ⟨10, .data⟩ (by simp) rfl
      clear hd hi
      simp only [Array.getD_eq_getD_getElem?] at d1
      unfold Oper.wp
      simp [execOp, Act.eval, go_sem, d1]
      refine (is_any x 24 _ _ hx (by omega) cx).mono ?_
      rintro e w1 ⟨rfl, hb⟩
      exact ⟨_, rfl, .of hb, hR.grow hne hb, rfl⟩
    | 12, hi =>
      obtain rfl := Option.some.inj (show some _ = some o from hi)
      clear hd hi
      unfold Oper.wp
      simp [execOp, Act.eval, go_sem]
      refine (part_isN rb _ _ _ hlt).mono ?_
      rintro e w1 ⟨v, rfl, hv, hb⟩
      exact ⟨v, rfl, .of hb, hR.grow hne hb, hv⟩
    | 13, hi =>
      obtain rfl := Option.some.inj (show some _ = some o from hi)
      clear hd hi
      simp only [Array.getD_eq_getD_getElem?] at k1
      unfold Oper.wp
      simp [execOp, Act.eval, go_sem, k1, cx]
      exact ⟨_, rfl, .of (Below.refl _ _), hR, rfl⟩
    | 14, hi =>
      obtain rfl := Option.some.inj (show some _ = some o from hi)
      have d1 : IsPartN rb 12 12 (a.tmps.getD 17 undef) w' := hd ⟨12, .data⟩ (by simp) rfl
      have d2 : a.tmps.getD 18 undef = .int .u64 (x : Int) := hd ⟨13, .data⟩ (by simp) rfl
      clear hd hi
      obtain ⟨g1, g2, e1, _, _, c2, c3⟩ := d1
      simp only [Array.getD_eq_getD_getElem?] at e1 d2
      unfold Oper.wp
      simp [execOp, Act.eval, go_sem, e1, d2]
      refine (read_any x 12 12 _ _ _ hx (by omega) (by omega) c2 c3).mono ?_
      rintro e w1 ⟨rfl, hb⟩
      exact ⟨_, rfl, .of hb, hR.grow hne hb, rfl⟩
    | 15, hi =>
      obtain rfl := Option.some.inj (show some _ = some o from hi)
      clear hd hi
      unfold Oper.wp
      simp [execOp, Act.eval, go_sem]
      refine (part_isN rb _ _ _ hlt).mono ?_
      rintro e w1 ⟨v, rfl, hv, hb⟩
      exact ⟨v, rfl, .of hb, hR.grow hne hb, hv⟩
    | 16, hi =>
      obtain rfl := Option.some.inj (show some _ = some o from hi)
      clear hd hi
      simp only [Array.getD_eq_getD_getElem?] at k1
      unfold Oper.wp
      simp [execOp, Act.eval, go_sem, k1, cx]
      exact ⟨_, rfl, .of (Below.refl _ _), hR, rfl⟩
    | 17, hi =>
      obtain rfl := Option.some.inj (show some _ = some o from hi)
      have d1 : IsPartN rb 0 12 (a.tmps.getD 20 undef) w' := hd ⟨15, .data⟩ (by simp) rfl
      have d2 : a.tmps.getD 21 undef = .int .u64 (x : Int) := hd ⟨16, .data⟩ (by simp) rfl
      clear hd hi
      obtain ⟨g1, g2, e1, _, _, c2, c3⟩ := d1
      simp only [Array.getD_eq_getD_getElem?] at e1 d2
      unfold Oper.wp
      simp [execOp, Act.eval, go_sem, e1, d2]
      refine (read_any x 0 12 _ _ _ hx (by omega) (by omega) c2 c3).mono ?_
      rintro e w1 ⟨rfl, hb⟩
      exact ⟨_, rfl, .of hb, hR.grow hne hb, rfl⟩
    | 18, hi =>
      obtain rfl := Option.some.inj (show some _ = some o from hi)
      have d2 : a.tmps.getD 7 undef = .int .i64 (numW x 30 32 : Int) := hd ⟨2, .data⟩ (by simp) rfl
      have d5 : a.tmps.getD 10 undef = .int .i64 (numW x 27 3 : Int) := hd ⟨5, .data⟩ (by simp) rfl
      have d7 : a.tmps.getD 12 undef = .bool (x.testBit 26) := hd ⟨7, .data⟩ (by simp) rfl
      have d9 : a.tmps.getD 14 undef = .bool (x.testBit 25) := hd ⟨9, .data⟩ (by simp) rfl
      have d11 : a.tmps.getD 16 undef = .bool (x.testBit 24) := hd ⟨11, .data⟩ (by simp) rfl
      have d14 : a.tmps.getD 19 undef = .int .i64 (numW x 12 12 : Int) := hd ⟨14, .data⟩ (by simp) rfl
      have d17 : a.tmps.getD 22 undef = .int .i64 (numW x 0 12 : Int) := hd ⟨17, .data⟩ (by simp) rfl
      clear hd hi
      simp only [Array.getD_eq_getD_getElem?] at d2 d5 d7 d9 d11 d14 d17
      unfold Oper.wp
      simp [execOp, Act.eval, go_sem, d2, d5, d7, d9, d11, d14, d17]
      exact ⟨_, rfl, .of (Below.refl _ _), hR, rfl⟩
    | 19, hi =>
      obtain rfl := Option.some.inj (show some _ = some o from hi)
      have d18 : a.tmps.getD 23 undef = .agg (partsV x) := hd ⟨18, .data⟩ (by simp) rfl
      clear hd hi
      obtain ⟨c0, c1, c2, c3, c4, c5, c6, hc⟩ := hR.res
      have z0 := blk_cell hc 0
      have f0 := blk_frozen hc 0
      have z1 := blk_cell hc 1
      have f1 := blk_frozen hc 1
      have z2 := blk_cell hc 2
      have f2 := blk_frozen hc 2
      have z3 := blk_cell hc 3
      have f3 := blk_frozen hc 3
      have z4 := blk_cell hc 4
      have f4 := blk_frozen hc 4
      have z5 := blk_cell hc 5
      have f5 := blk_frozen hc 5
      have z6 := blk_cell hc 6
      have f6 := blk_frozen hc 6
      simp at z0 z1 z2 z3 z4 z5 z6
      simp only [Array.getD_eq_getD_getElem?] at d18 k2
      unfold Oper.wp
      simp [execOp, Act.eval, go_sem, d18, k2, partsV, z0, f0, z1, f1, z2, f2, z3, f3, z4, f4, z5, f5, z6, f6]
      have D := blk_put (blk_put (blk_put (blk_put (blk_put (blk_put (blk_put hc 0 (.int .i64 (numW x 30 32 : Int)) rfl) 1 (.int .i64 (numW x 27 3 : Int)) rfl) 2 (.bool (x.testBit 26)) rfl) 3 (.bool (x.testBit 25)) rfl) 4 (.bool (x.testBit 24)) rfl) 5 (.int .i64 (numW x 12 12 : Int)) rfl) 6 (.int .i64 (numW x 0 12 : Int)) rfl
      have B := (((((((But1.of (rb := rb) (Below.refl w'.heap.size w')).set 0 (.int .i64 (numW x 30 32 : Int))).set 1 (.int .i64 (numW x 27 3 : Int))).set 2 (.bool (x.testBit 26))).set 3 (.bool (x.testBit 25))).set 4 (.bool (x.testBit 24))).set 5 (.int .i64 (numW x 12 12 : Int))).set 6 (.int .i64 (numW x 0 12 : Int))
      exact ⟨⟨B, fun _ => D⟩, ⟨hR.but.trans B, B.cell hne cx, _, _, _, _, _, _, _, D⟩, D⟩
    | n + 20, hi => simp at hi
  · intro a w' hk hR hΦ
    have d19 : w'.heap[rb]? = some (.cells (partsV x) 27 (0, 0)) := hΦ 19 (by simp)
    have k2 : a.tmps.getD 2 undef = .pointer (some ⟨rb, 0, none⟩) := hk.2.2 (2, .pointer (some ⟨rb, 0, none⟩)) (by simp)
    refine hK _ _ (wp_ret ?_)
    refine bodyPost_ret (v := .agg (partsV x)) ?_ hk.1 ⟨rfl, ?_⟩
    · exact results_cell_row rfl _ _ rb 27 (partsV x) (0, 0) _ k2 d19 Try.underlying27 rfl (by kernel_rfl)
    · subst hxb
      have hB := hR.but
      exact ⟨hB.os.trans hW.os, hB.tape.trans hW.tape, hB.output.trans hW.output, Nat.le_trans hW.size hB.size, fun k hk => (hB.block k (Nat.lt_trans hk kW) (hown k hk)).trans (hW.block k hk)⟩
  · exact ⟨rfl, rfl, by simp⟩
  · have e : W.drew.heap = W.heap := rfl
    exact ⟨.of (below_drew (Below.refl _ _)), blk_cell (blk_drew b1) 0, _, _, _, _, _, _, _, blk_drew b2⟩
end Go.Proofs.Ytggphjmlnbkngaa
