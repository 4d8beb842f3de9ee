/-
  The chart of the memory, and its touch.
-/
import Derived.Test.YtfinmiakbpmjiaaGreatProg
import Derived.Test.YtfinmiakbpmjiaaGreatKit
import Derived.BigRegion
set_option linter.unusedSimpArgs false
set_option linter.unusedVariables false
set_option maxRecDepth 100000
namespace Go.Proofs.YtfinmiakbpmjiaaGreat
open Go.RowKit
attribute [local go_sem] max2_int min2_int max_two min_two
theorem hid {p : Prop} (h : p) : Hid p := h
def toN (n a b : Int) : Int := if a < (if b < n then b else n) then (if b < n then b else n) else a
theorem to_any (n a b : Int) (w : World) : Calls Tryz.prog 110 #[.int .i64 n, .int .i64 a, .int .i64 b] w fun e w' => e = .returned (.int .i64 (toN n a b)) ∧ w' = w := by
 go_enter Tryz.func110, Tryz.ntmps110
 go_wp2
 all_goals go_ret
 all_goals refine ⟨?_, rfl⟩
 all_goals (simp; unfold toN; split <;> split <;> (first | rfl | omega | (split at * <;> omega)))
end Go.Proofs.YtfinmiakbpmjiaaGreat
namespace Go.Proofs.YtfinmiakbpmjiaaGreat
open Go.RowKit Go.Proofs.YtfinmiakbpmjiaaGreat.St
attribute [local go_sem] max2_int min2_int max_two min_two
def rightA (T S K L Q : Int) : Array Value := #[.int .i64 (toN T 1 8), .int .i64 (toN S 1 12), .int .i64 (toN K 1 8), .int .i64 (toN L 0 1073741823), .int .u64 (if 1099511627775 < Q then 1099511627775 else Q)]
def cfgV (T S K L Q : Int) : Array Value := #[.int .i64 T, .int .i64 S, .int .i64 K, .int .i64 L, .int .u64 Q]
def Laid1 (W0 : World) (zero agg : Array Value) (t : TypeId) (slot ia is : Nat) (l : Array Bool) (a : Act) (w : World) : Prop :=
 Below W0.heap.size W0 w ∧ (l.getD ia false = true → ∃ g, a.tmps.getD slot undef = .pointer (some ⟨g, 0, none⟩) ∧ W0.heap.size ≤ g ∧ w.heap[g]? = some (.cells (if l.getD is false then agg else zero) t (0, 0))) ∧ (l.getD is false = true → l.getD ia false = true)
theorem Laid1.put {W0 : World} {zero agg : Array Value} {t : TypeId} {slot ia is : Nat} {l : Array Bool} {a : Act} {w : World} (h : Laid1 W0 zero agg t slot ia is l a w) (i d : Nat) (v : Value) (h1 : i ≠ ia) (h2 : i ≠ is) (h3 : d ≠ slot) :
  Laid1 W0 zero agg t slot ia is (l.setIfInBounds i true) (a.put (some d) v) w := by
 have e1 : (l.setIfInBounds i true).getD ia false = l.getD ia false := by simp [Array.getElem?_setIfInBounds, h1]
 have e2 : (l.setIfInBounds i true).getD is false = l.getD is false := by simp [Array.getElem?_setIfInBounds, h2]
 refine ⟨h.1, fun hl => ?_, fun hl => by rw [e1]; exact h.2.2 (by rw [← e2]; exact hl)⟩
 have e3 : (a.put (some d) v).tmps.getD slot undef = a.tmps.getD slot undef := by simp [Act.put, Array.getElem?_setIfInBounds, h3]
 rw [e1] at hl
 rw [e2, e3]
 exact h.2.1 hl
theorem getD_off {l : Array Bool} {i : Nat} (h : l.getD i true = false) : l.getD i false = false ∧ i < l.size := by
 rcases Nat.lt_or_ge i l.size with h' | h'
 ·simp [h'] at h ⊢
  exact h
 ·simp [Array.getElem?_eq_none h'] at h
theorem Laid1.alloc {W0 : World} {zero agg : Array Value} {t : TypeId} {slot ia is : Nat} {l : Array Bool} {a : Act} {w : World} (h : Laid1 W0 zero agg t slot ia is l a w) (hu : l.getD ia true = false) (hn : ia ≠ is) (hs : slot < a.tmps.size) :
  Laid1 W0 zero agg t slot ia is (l.setIfInBounds ia true) (a.put (some slot) (.pointer (some ⟨w.heap.size, 0, none⟩))) (w.alloc (.cells zero t)) := by
 obtain ⟨h1, h2⟩ := getD_off hu
 have h3 : l.getD is false = false := by
  cases e : l.getD is false with
  | false => rfl
  | true => rw [h.2.2 e] at h1; cases h1
 have e1 : (l.setIfInBounds ia true).getD ia false = true := by simp [h2]
 have e2 : (l.setIfInBounds ia true).getD is false = false := by simp [Array.getElem?_setIfInBounds, hn]; simpa using h3
 refine ⟨below_alloc h.1 _, fun _ => ⟨w.heap.size, by simp [Act.put, hs], h.1.size, ?_⟩, fun e => by rw [e2] at e; cases e⟩
 rw [e2]
 exact blk_new w (.cells zero t)
theorem Laid1.store {W0 w W : World} {zero agg : Array Value} {t : TypeId} {slot ia is : Nat} {l : Array Bool} {a : Act} {g : Nat} (h : Laid1 W0 zero agg t slot ia is l a w) (hl : l.getD ia false = true) (hu : l.getD is true = false) (hn : ia ≠ is)
  (e3 : a.tmps.getD slot undef = .pointer (some ⟨g, 0, none⟩)) (hg : W0.heap.size ≤ g) (hB : Below W0.heap.size W0 W) (hc : W.heap[g]? = some (.cells agg t (0, 0))) : Laid1 W0 zero agg t slot ia is (l.setIfInBounds is true) a W := by
 obtain ⟨h1, h2⟩ := getD_off hu
 have e1 : (l.setIfInBounds is true).getD ia false = true := by simp [Array.getElem?_setIfInBounds, Ne.symm hn]; simpa using hl
 have e2 : (l.setIfInBounds is true).getD is false = true := by simp [h2]
 refine ⟨hB, fun _ => ⟨g, e3, hg, ?_⟩, fun _ => e1⟩
 rw [e2]
 exact hc
theorem lit23 {xs : Array Value} (h : xs.size = 23) : ∃ v0 v1 v2 v3 v4 v5 v6 v7 v8 v9 v10 v11 v12 v13 v14 v15 v16 v17 v18 v19 v20 v21 v22, xs = #[v0, v1, v2, v3, v4, v5, v6, v7, v8, v9, v10, v11, v12, v13, v14, v15, v16, v17, v18, v19, v20, v21, v22] := by
 obtain ⟨ys⟩ := xs
 match ys, h with
 | [v0, v1, v2, v3, v4, v5, v6, v7, v8, v9, v10, v11, v12, v13, v14, v15, v16, v17, v18, v19, v20, v21, v22], _ => exact ⟨v0, v1, v2, v3, v4, v5, v6, v7, v8, v9, v10, v11, v12, v13, v14, v15, v16, v17, v18, v19, v20, v21, v22, rfl⟩
def riΦ (T S K L Q : Int) (cb : Nat) : Nat → Value → World → Prop
 | 0, v, _ => v = .pointer (some ⟨cb, 0, none⟩)
 | 1, v, _ => v = .int .i64 T
 | 2, v, _ => v = .int .i64 (toN T 1 8)
 | 3, v, _ => v = .pointer (some ⟨cb, 1, none⟩)
 | 4, v, _ => v = .int .i64 S
 | 5, v, _ => v = .int .i64 (toN S 1 12)
 | 6, v, _ => v = .pointer (some ⟨cb, 2, none⟩)
 | 7, v, _ => v = .int .i64 K
 | 8, v, _ => v = .int .i64 (toN K 1 8)
 | 9, v, _ => v = .pointer (some ⟨cb, 3, none⟩)
 | 10, v, _ => v = .int .i64 L
 | 11, v, _ => v = .int .i64 (toN L 0 1073741823)
 | 12, v, _ => v = .pointer (some ⟨cb, 4, none⟩)
 | 13, v, _ => v = .int .u64 Q
 | 14, v, _ => v = .int .u64 (if 1099511627775 < Q then 1099511627775 else Q)
 | 15, v, _ => v = .agg (rightA T S K L Q)
 | _, _, _ => True
set_option maxHeartbeats 4000000 in
theorem Right_core (T S K L Q : Int) (w : World) : Calls Tryz.prog 82 #[.agg (cfgV T S K L Q)] w fun e w' => e = .returned (.bool (decide (T = toN T 1 8 ∧ S = toN S 1 12 ∧ K = toN K 1 8 ∧ L = toN L 0 1073741823 ∧ Q = (if 1099511627775 < Q then 1099511627775 else Q)))) ∧ Below w.heap.size w w' := by
 unfold cfgV
 generalize e1 : toN T 1 8 = T'
 generalize e2 : toN S 1 12 = S'
 generalize e3 : toN K 1 8 = K'
 generalize e4 : toN L 0 1073741823 = L'
 generalize e5 : (if 1099511627775 < Q then 1099511627775 else Q) = Q''
 have E1 := hid e1
 have E2 := hid e2
 have E3 := hid e3
 have E4 := hid e4
 have E5 := hid e5
 clear e1 e2 e3 e4 e5
 go_enter Tryz.func82, Tryz.ntmps82
 go_wp2_with fail
 rename_i Q' KK hK
 have b1 := blk_new w (.cells #[.int .i64 T, .int .i64 S, .int .i64 K, .int .i64 L, .int .u64 Q] 24)
 have hB := below_alloc (Below.refl w.heap.size w) (.cells #[.int .i64 T, .int .i64 S, .int .i64 K, .int .i64 L, .int .u64 Q] 24)
 generalize hW : w.alloc (.cells #[.int .i64 T, .int .i64 S, .int .i64 K, .int .i64 L, .int .u64 Q] 24) = W at *
 have hsz : Hid (w.heap.size < W.heap.size) := hid (blk_lt b1)
 generalize hcb : w.heap.size = cb at b1 ⊢
 have hcb' : cb < W.heap.size := by rw [← hcb]; exact hsz.out
 refine wp_region_stand (n := 23) [(1, .pointer (some ⟨cb, 0, none⟩))] (riΦ T S K L Q cb) (Laid1 W #[.int .i64 0, .int .i64 0, .int .i64 0, .int .i64 0, .int .u64 0] (rightA T S K L Q) 24 3 16 17) (fun _ _ => True) rfl (by kernel_rfl) (by kernel_rfl) ?_ ?_ ?_ ?_ ?_
 ·intro i v w w' _ h
  match i, h with
  | 0, h => exact h
  | 1, h => exact h
  | 2, h => exact h
  | 3, h => exact h
  | 4, h => exact h
  | 5, h => exact h
  | 6, h => exact h
  | 7, h => exact h
  | 8, h => exact h
  | 9, h => exact h
  | 10, h => exact h
  | 11, h => exact h
  | 12, h => exact h
  | 13, h => exact h
  | 14, h => exact h
  | 15, h => exact h
  | n + 16, h => trivial
 ·intro i o hi l a w' hk hR hun hph hdep
  have k1 : a.tmps.getD 1 undef = .pointer (some ⟨cb, 0, none⟩) := hk.2.2 (1, .pointer (some ⟨cb, 0, none⟩)) (by simp)
  have bb := blk_below b1 hR.1
  have hsz' := hk.2.1
  clear hk
  match i, hi with
  | 0, hi =>
   obtain rfl := Option.some.inj (show some _ = some o from hi)
   clear hph hdep hi
   simp only [Array.getD_eq_getD_getElem?] at k1
   unfold Oper.wp
   simp [execOp, Act.eval, go_sem, k1]
   exact ⟨_, rfl, hR.put 0 4 _ (by decide) (by decide) (by decide), rfl⟩
  | 1, hi =>
   obtain rfl := Option.some.inj (show some _ = some o from hi)
   have d := hph 0 (hdep ⟨0, .data⟩ (by simp) rfl)
   have d' : a.tmps.getD 4 undef = .pointer (some ⟨cb, 0, none⟩) := d
   have c := blk_cell bb 0
   simp at c
   clear hph hdep hi d
   simp only [Array.getD_eq_getD_getElem?] at d'
   unfold Oper.wp
   simp [execOp, Act.eval, go_sem, d', c]
   exact ⟨_, rfl, hR.put 1 5 _ (by decide) (by decide) (by decide), rfl⟩
  | 2, hi =>
   obtain rfl := Option.some.inj (show some _ = some o from hi)
   have d := hph 1 (hdep ⟨1, .data⟩ (by simp) rfl)
   have d' : a.tmps.getD 5 undef = .int .i64 T := d
   clear hph hdep hi d
   simp only [Array.getD_eq_getD_getElem?] at d'
   unfold Oper.wp
   simp [execOp, Act.eval, go_sem, d']
   refine (to_any _ _ _ _).mono ?_
   rintro e w1 ⟨rfl, rfl⟩
   exact ⟨_, rfl, hR.put 2 6 _ (by decide) (by decide) (by decide), rfl⟩
  | 3, hi =>
   obtain rfl := Option.some.inj (show some _ = some o from hi)
   clear hph hdep hi
   simp only [Array.getD_eq_getD_getElem?] at k1
   unfold Oper.wp
   simp [execOp, Act.eval, go_sem, k1]
   exact ⟨_, rfl, hR.put 3 7 _ (by decide) (by decide) (by decide), rfl⟩
  | 4, hi =>
   obtain rfl := Option.some.inj (show some _ = some o from hi)
   have d := hph 3 (hdep ⟨3, .data⟩ (by simp) rfl)
   have d' : a.tmps.getD 7 undef = .pointer (some ⟨cb, 1, none⟩) := d
   have c := blk_cell bb 1
   simp at c
   clear hph hdep hi d
   simp only [Array.getD_eq_getD_getElem?] at d'
   unfold Oper.wp
   simp [execOp, Act.eval, go_sem, d', c]
   exact ⟨_, rfl, hR.put 4 8 _ (by decide) (by decide) (by decide), rfl⟩
  | 5, hi =>
   obtain rfl := Option.some.inj (show some _ = some o from hi)
   have d := hph 4 (hdep ⟨4, .data⟩ (by simp) rfl)
   have d' : a.tmps.getD 8 undef = .int .i64 S := d
   clear hph hdep hi d
   simp only [Array.getD_eq_getD_getElem?] at d'
   unfold Oper.wp
   simp [execOp, Act.eval, go_sem, d']
   refine (to_any _ _ _ _).mono ?_
   rintro e w1 ⟨rfl, rfl⟩
   exact ⟨_, rfl, hR.put 5 9 _ (by decide) (by decide) (by decide), rfl⟩
  | 6, hi =>
   obtain rfl := Option.some.inj (show some _ = some o from hi)
   clear hph hdep hi
   simp only [Array.getD_eq_getD_getElem?] at k1
   unfold Oper.wp
   simp [execOp, Act.eval, go_sem, k1]
   exact ⟨_, rfl, hR.put 6 10 _ (by decide) (by decide) (by decide), rfl⟩
  | 7, hi =>
   obtain rfl := Option.some.inj (show some _ = some o from hi)
   have d := hph 6 (hdep ⟨6, .data⟩ (by simp) rfl)
   have d' : a.tmps.getD 10 undef = .pointer (some ⟨cb, 2, none⟩) := d
   have c := blk_cell bb 2
   simp at c
   clear hph hdep hi d
   simp only [Array.getD_eq_getD_getElem?] at d'
   unfold Oper.wp
   simp [execOp, Act.eval, go_sem, d', c]
   exact ⟨_, rfl, hR.put 7 11 _ (by decide) (by decide) (by decide), rfl⟩
  | 8, hi =>
   obtain rfl := Option.some.inj (show some _ = some o from hi)
   have d := hph 7 (hdep ⟨7, .data⟩ (by simp) rfl)
   have d' : a.tmps.getD 11 undef = .int .i64 K := d
   clear hph hdep hi d
   simp only [Array.getD_eq_getD_getElem?] at d'
   unfold Oper.wp
   simp [execOp, Act.eval, go_sem, d']
   refine (to_any _ _ _ _).mono ?_
   rintro e w1 ⟨rfl, rfl⟩
   exact ⟨_, rfl, hR.put 8 12 _ (by decide) (by decide) (by decide), rfl⟩
  | 9, hi =>
   obtain rfl := Option.some.inj (show some _ = some o from hi)
   clear hph hdep hi
   simp only [Array.getD_eq_getD_getElem?] at k1
   unfold Oper.wp
   simp [execOp, Act.eval, go_sem, k1]
   exact ⟨_, rfl, hR.put 9 13 _ (by decide) (by decide) (by decide), rfl⟩
  | 10, hi =>
   obtain rfl := Option.some.inj (show some _ = some o from hi)
   have d := hph 9 (hdep ⟨9, .data⟩ (by simp) rfl)
   have d' : a.tmps.getD 13 undef = .pointer (some ⟨cb, 3, none⟩) := d
   have c := blk_cell bb 3
   simp at c
   clear hph hdep hi d
   simp only [Array.getD_eq_getD_getElem?] at d'
   unfold Oper.wp
   simp [execOp, Act.eval, go_sem, d', c]
   exact ⟨_, rfl, hR.put 10 14 _ (by decide) (by decide) (by decide), rfl⟩
  | 11, hi =>
   obtain rfl := Option.some.inj (show some _ = some o from hi)
   have d := hph 10 (hdep ⟨10, .data⟩ (by simp) rfl)
   have d' : a.tmps.getD 14 undef = .int .i64 L := d
   clear hph hdep hi d
   simp only [Array.getD_eq_getD_getElem?] at d'
   unfold Oper.wp
   simp [execOp, Act.eval, go_sem, d']
   refine (to_any _ _ _ _).mono ?_
   rintro e w1 ⟨rfl, rfl⟩
   exact ⟨_, rfl, hR.put 11 15 _ (by decide) (by decide) (by decide), rfl⟩
  | 12, hi =>
   obtain rfl := Option.some.inj (show some _ = some o from hi)
   clear hph hdep hi
   simp only [Array.getD_eq_getD_getElem?] at k1
   unfold Oper.wp
   simp [execOp, Act.eval, go_sem, k1]
   exact ⟨_, rfl, hR.put 12 16 _ (by decide) (by decide) (by decide), rfl⟩
  | 13, hi =>
   obtain rfl := Option.some.inj (show some _ = some o from hi)
   have d := hph 12 (hdep ⟨12, .data⟩ (by simp) rfl)
   have d' : a.tmps.getD 16 undef = .pointer (some ⟨cb, 4, none⟩) := d
   have c := blk_cell bb 4
   simp at c
   clear hph hdep hi d
   simp only [Array.getD_eq_getD_getElem?] at d'
   unfold Oper.wp
   simp [execOp, Act.eval, go_sem, d', c]
   exact ⟨_, rfl, hR.put 13 17 _ (by decide) (by decide) (by decide), rfl⟩
  | 14, hi =>
   obtain rfl := Option.some.inj (show some _ = some o from hi)
   have d := hph 13 (hdep ⟨13, .data⟩ (by simp) rfl)
   have d' : a.tmps.getD 17 undef = .int .u64 Q := d
   clear hph hdep hi d
   simp only [Array.getD_eq_getD_getElem?] at d'
   unfold Oper.wp
   simp [execOp, Act.eval, go_sem, d']
   exact ⟨_, rfl, hR.put 14 18 _ (by decide) (by decide) (by decide), rfl⟩
  | 15, hi =>
   obtain rfl := Option.some.inj (show some _ = some o from hi)
   have d2 : a.tmps.getD 6 undef = .int .i64 (toN T 1 8) := hph 2 (hdep ⟨2, .data⟩ (by simp) rfl)
   have d5 : a.tmps.getD 9 undef = .int .i64 (toN S 1 12) := hph 5 (hdep ⟨5, .data⟩ (by simp) rfl)
   have d8 : a.tmps.getD 12 undef = .int .i64 (toN K 1 8) := hph 8 (hdep ⟨8, .data⟩ (by simp) rfl)
   have d11 : a.tmps.getD 15 undef = .int .i64 (toN L 0 1073741823) := hph 11 (hdep ⟨11, .data⟩ (by simp) rfl)
   have d14 : a.tmps.getD 18 undef = .int .u64 (if 1099511627775 < Q then 1099511627775 else Q) := hph 14 (hdep ⟨14, .data⟩ (by simp) rfl)
   clear hph hdep hi
   simp only [Array.getD_eq_getD_getElem?] at d2 d5 d8 d11 d14
   unfold Oper.wp
   simp [execOp, Act.eval, go_sem, d2, d5, d8, d11, d14]
   exact ⟨_, rfl, hR.put 15 19 _ (by decide) (by decide) (by decide), rfl⟩
  | 16, hi =>
   obtain rfl := Option.some.inj (show some _ = some o from hi)
   clear hph hdep hi
   unfold Oper.wp
   simp [execOp, Act.eval, go_sem]
   exact ⟨_, rfl, hR.alloc hun (by decide) (by rw [hsz']; decide), trivial⟩
  | 17, hi =>
   obtain rfl := Option.some.inj (show some _ = some o from hi)
   have d15 : a.tmps.getD 19 undef = .agg (rightA T S K L Q) := hph 15 (hdep ⟨15, .data⟩ (by simp) rfl)
   have hl16 := hdep ⟨16, .data⟩ (by simp) rfl
   have d16 := hR.2.1 (hdep ⟨16, .data⟩ (by simp) rfl)
   clear hph hdep hi
   obtain ⟨g, e3, hg, hc⟩ := d16
   rw [(getD_off hun).1] at hc
   replace hc : w'.heap[g]? = some (.cells #[.int .i64 0, .int .i64 0, .int .i64 0, .int .i64 0, .int .u64 0] 24 (0, 0)) := hc
   have z0 := blk_cell hc 0
   have z1 := blk_cell hc 1
   have z2 := blk_cell hc 2
   have z3 := blk_cell hc 3
   have z4 := blk_cell hc 4
   have f0 := blk_frozen hc 0
   have f1 := blk_frozen hc 1
   have f2 := blk_frozen hc 2
   have f3 := blk_frozen hc 3
   have f4 := blk_frozen hc 4
   simp at z0 z1 z2 z3 z4
   have E3 := e3
   simp only [Array.getD_eq_getD_getElem?] at d15 e3
   unfold rightA at d15
   unfold Oper.wp
   simp [execOp, Act.eval, go_sem, d15, e3, z0, z1, z2, z3, z4, f0, f1, f2, f3, f4]
   exact ⟨hR.store hl16 hun (by decide) E3 hg (below_set (below_set (below_set (below_set (below_set hR.1 hg _) hg _) hg _) hg _) hg _) (blk_put (blk_put (blk_put (blk_put (blk_put hc 0 _ rfl) 1 _ rfl) 2 _ rfl) 3 _ rfl) 4 _ rfl), trivial⟩
  | n + 18, hi => simp at hi
 ·intro l a w' hk hR hl hΦ
  obtain ⟨g, e3, hg, hc⟩ := hR.2.1 (hl 16 (by simp))
  rw [hl 17 (by simp)] at hc
  have k1 : a.tmps.getD 1 undef = .pointer (some ⟨cb, 0, none⟩) := hk.2.2 (1, .pointer (some ⟨cb, 0, none⟩)) (by simp)
  have bb := blk_below b1 hR.1
  have hB2 := below_then hB hR.1
  obtain ⟨tm, df⟩ := a
  obtain ⟨rfl, hs2, _⟩ := hk
  obtain ⟨v0, v1, v2, v3, v4, v5, v6, v7, v8, v9, v10, v11, v12, v13, v14, v15, v16, v17, v18, v19, v20, v21, v22, rfl⟩ := lit23 hs2
  simp at k1 e3
  subst k1 e3
  replace hc : w'.heap[g]? = some (.cells (rightA T S K L Q) 24 (0, 0)) := hc
  unfold rightA at hc
  rw [E1.out, E2.out, E3.out, E4.out, E5.out] at hc
  clear E1 E2 E3 E4 E5 hl hΦ hR
  have z0 := blk_cell hc 0
  have z1 := blk_cell hc 1
  have z2 := blk_cell hc 2
  have z3 := blk_cell hc 3
  have z4 := blk_cell hc 4
  have c0 := blk_cell bb 0
  have c1 := blk_cell bb 1
  have c2 := blk_cell bb 2
  have c3 := blk_cell bb 3
  have c4 := blk_cell bb 4
  simp at z0 z1 z2 z3 z4 c0 c1 c2 c3 c4
  refine hK _ _ ?_
  go_wp2
  all_goals (try (simp only [Oper.upon_value]; go_wp2))
  all_goals go_ret
  all_goals refine ⟨?_, by rw [← hcb]; exact hB2⟩
  all_goals (simp <;> simp_all)
 ·exact ⟨rfl, rfl, by simp⟩
 ·exact ⟨below_drew (Below.refl _ _), fun h => by simp at h, fun h => by simp at h⟩
end Go.Proofs.YtfinmiakbpmjiaaGreat
namespace Go.Proofs.YtfinmiakbpmjiaaGreat
open Go.RowKit
theorem blk_new2 (w : World) (o o' : Obj) : ((w.alloc o).alloc o').heap[w.heap.size + 1]? = some o' := by
 have := blk_new (w.alloc o) o'
 simpa using this
theorem of_1 (T S K L Q : Int) (w : World) (h1 : 1 ≤ T) (h2 : T ≤ 8) (h3 : 1 ≤ S) (h4 : S ≤ 12) : Calls Tryz.prog 83 #[.agg #[.int .i64 T, .int .i64 S, .int .i64 K, .int .i64 L, .int .u64 Q], .int .i64 1] w fun e w' => e = .returned (.agg #[.int .i64 0, .int .i64 1, .int .i64 1]) ∧ Below w.heap.size w w' := by
 go_enter Tryz.func83, Tryz.ntmps83
 go_wp2
 refine bodyPost_ret (results_cell_row rfl _ _ (w.heap.size + 1) 165 #[.int .i64 0, .int .i64 1, .int .i64 1] (0, 0) _ rfl ?_ Tryz.underlying165 rfl (by kernel_rfl)) rfl ⟨rfl, ?_⟩
 ·first | exact blk_new2 _ _ _ | (refine (blk_new2 _ _ _).trans ?_; congr 6; omega)
 ·exact below_alloc (below_alloc (Below.refl _ _) _) _
theorem of_2 (T S K L Q : Int) (w : World) (h1 : 1 ≤ T) (h2 : T ≤ 8) (h3 : 1 ≤ S) (h4 : S ≤ 12) : Calls Tryz.prog 83 #[.agg #[.int .i64 T, .int .i64 S, .int .i64 K, .int .i64 L, .int .u64 Q], .int .i64 2] w fun e w' => e = .returned (.agg #[.int .i64 1, .int .i64 1, .int .i64 1]) ∧ Below w.heap.size w w' := by
 go_enter Tryz.func83, Tryz.ntmps83
 go_wp2
 refine bodyPost_ret (results_cell_row rfl _ _ (w.heap.size + 1) 165 #[.int .i64 1, .int .i64 1, .int .i64 1] (0, 0) _ rfl ?_ Tryz.underlying165 rfl (by kernel_rfl)) rfl ⟨rfl, ?_⟩
 ·first | exact blk_new2 _ _ _ | (refine (blk_new2 _ _ _).trans ?_; congr 6; omega)
 ·exact below_alloc (below_alloc (Below.refl _ _) _) _
theorem of_3 (T S K L Q : Int) (w : World) (h1 : 1 ≤ T) (h2 : T ≤ 8) (h3 : 1 ≤ S) (h4 : S ≤ 12) : Calls Tryz.prog 83 #[.agg #[.int .i64 T, .int .i64 S, .int .i64 K, .int .i64 L, .int .u64 Q], .int .i64 3] w fun e w' => e = .returned (.agg #[.int .i64 2, .int .i64 T, .int .i64 1]) ∧ Below w.heap.size w w' := by
 go_enter Tryz.func83, Tryz.ntmps83
 go_wp2
 refine bodyPost_ret (results_cell_row rfl _ _ (w.heap.size + 1) 165 #[.int .i64 2, .int .i64 T, .int .i64 1] (0, 0) _ rfl ?_ Tryz.underlying165 rfl (by kernel_rfl)) rfl ⟨rfl, ?_⟩
 ·first | exact blk_new2 _ _ _ | (refine (blk_new2 _ _ _).trans ?_; congr 6; omega)
 ·exact below_alloc (below_alloc (Below.refl _ _) _) _
theorem of_4 (T S K L Q : Int) (w : World) (h1 : 1 ≤ T) (h2 : T ≤ 8) (h3 : 1 ≤ S) (h4 : S ≤ 12) : Calls Tryz.prog 83 #[.agg #[.int .i64 T, .int .i64 S, .int .i64 K, .int .i64 L, .int .u64 Q], .int .i64 4] w fun e w' => e = .returned (.agg #[.int .i64 (2 + T), .int .i64 S, .int .i64 4]) ∧ Below w.heap.size w w' := by
 go_enter Tryz.func83, Tryz.ntmps83
 go_wp2
 refine bodyPost_ret (results_cell_row rfl _ _ (w.heap.size + 1) 165 #[.int .i64 (2 + T), .int .i64 S, .int .i64 4] (0, 0) _ rfl ?_ Tryz.underlying165 rfl (by kernel_rfl)) rfl ⟨rfl, ?_⟩
 ·first | exact blk_new2 _ _ _ | (refine (blk_new2 _ _ _).trans ?_; congr 6; omega)
 ·exact below_alloc (below_alloc (Below.refl _ _) _) _
theorem of_5 (T S K L Q : Int) (w : World) (h1 : 1 ≤ T) (h2 : T ≤ 8) (h3 : 1 ≤ S) (h4 : S ≤ 12) : Calls Tryz.prog 83 #[.agg #[.int .i64 T, .int .i64 S, .int .i64 K, .int .i64 L, .int .u64 Q], .int .i64 5] w fun e w' => e = .returned (.agg #[.int .i64 (2 + T + 1), .int .i64 S, .int .i64 4]) ∧ Below w.heap.size w w' := by
 go_enter Tryz.func83, Tryz.ntmps83
 go_wp2
 refine bodyPost_ret (results_cell_row rfl _ _ (w.heap.size + 1) 165 #[.int .i64 (2 + T + 1), .int .i64 S, .int .i64 4] (0, 0) _ rfl ?_ Tryz.underlying165 rfl (by kernel_rfl)) rfl ⟨rfl, ?_⟩
 ·first | exact blk_new2 _ _ _ | (refine (blk_new2 _ _ _).trans ?_; congr 6; omega)
 ·exact below_alloc (below_alloc (Below.refl _ _) _) _
theorem of_6 (T S K L Q : Int) (w : World) (h1 : 1 ≤ T) (h2 : T ≤ 8) (h3 : 1 ≤ S) (h4 : S ≤ 12) : Calls Tryz.prog 83 #[.agg #[.int .i64 T, .int .i64 S, .int .i64 K, .int .i64 L, .int .u64 Q], .int .i64 6] w fun e w' => e = .returned (.agg #[.int .i64 (2 + T + 2), .int .i64 S, .int .i64 4]) ∧ Below w.heap.size w w' := by
 go_enter Tryz.func83, Tryz.ntmps83
 go_wp2
 refine bodyPost_ret (results_cell_row rfl _ _ (w.heap.size + 1) 165 #[.int .i64 (2 + T + 2), .int .i64 S, .int .i64 4] (0, 0) _ rfl ?_ Tryz.underlying165 rfl (by kernel_rfl)) rfl ⟨rfl, ?_⟩
 ·first | exact blk_new2 _ _ _ | (refine (blk_new2 _ _ _).trans ?_; congr 6; omega)
 ·exact below_alloc (below_alloc (Below.refl _ _) _) _
theorem of_7 (T S K L Q : Int) (w : World) (h1 : 1 ≤ T) (h2 : T ≤ 8) (h3 : 1 ≤ S) (h4 : S ≤ 12) : Calls Tryz.prog 83 #[.agg #[.int .i64 T, .int .i64 S, .int .i64 K, .int .i64 L, .int .u64 Q], .int .i64 7] w fun e w' => e = .returned (.agg #[.int .i64 (2 + T + 3), .int .i64 S, .int .i64 4]) ∧ Below w.heap.size w w' := by
 go_enter Tryz.func83, Tryz.ntmps83
 go_wp2
 refine bodyPost_ret (results_cell_row rfl _ _ (w.heap.size + 1) 165 #[.int .i64 (2 + T + 3), .int .i64 S, .int .i64 4] (0, 0) _ rfl ?_ Tryz.underlying165 rfl (by kernel_rfl)) rfl ⟨rfl, ?_⟩
 ·first | exact blk_new2 _ _ _ | (refine (blk_new2 _ _ _).trans ?_; congr 6; omega)
 ·exact below_alloc (below_alloc (Below.refl _ _) _) _
theorem of_8 (T S K L Q : Int) (w : World) (h1 : 1 ≤ T) (h2 : T ≤ 8) (h3 : 1 ≤ S) (h4 : S ≤ 12) : Calls Tryz.prog 83 #[.agg #[.int .i64 T, .int .i64 S, .int .i64 K, .int .i64 L, .int .u64 Q], .int .i64 8] w fun e w' => e = .returned (.agg #[.int .i64 (2 + T + 4 * S), .int .i64 K, .int .i64 1]) ∧ Below w.heap.size w w' := by
 go_enter Tryz.func83, Tryz.ntmps83
 go_wp2
 refine bodyPost_ret (results_cell_row rfl _ _ (w.heap.size + 1) 165 #[.int .i64 (2 + T + 4 * S), .int .i64 K, .int .i64 1] (0, 0) _ rfl ?_ Tryz.underlying165 rfl (by kernel_rfl)) rfl ⟨rfl, ?_⟩
 ·first | exact blk_new2 _ _ _ | (refine (blk_new2 _ _ _).trans ?_; congr 6; omega)
 ·exact below_alloc (below_alloc (Below.refl _ _) _) _
def RightC (T S K L Q : Int) : Prop := 1 ≤ T ∧ T ≤ 8 ∧ 1 ≤ S ∧ S ≤ 12 ∧ 1 ≤ K ∧ K ≤ 8 ∧ 0 ≤ L ∧ L ≤ 1073741823 ∧ 0 ≤ Q ∧ Q ≤ 1099511627775
theorem toN_id {n a b : Int} (h : a ≤ n) (h' : n ≤ b) : toN n a b = n := by
 unfold toN
 rw [if_neg (by omega : ¬ b < n)]
 split <;> omega
theorem Right_yes (T S K L Q : Int) (w : World) (h : RightC T S K L Q) : Calls Tryz.prog 82 #[.agg #[.int .i64 T, .int .i64 S, .int .i64 K, .int .i64 L, .int .u64 Q]] w fun e w' => e = .returned (.bool true) ∧ Below w.heap.size w w' := by
 have h1 := Right_core T S K L Q w
 obtain ⟨a1, a2, a3, a4, a5, a6, a7, a8, a9, a10⟩ := h
 rw [toN_id a1 a2, toN_id a3 a4, toN_id a5 a6, toN_id a7 a8, if_neg (by omega : ¬ 1099511627775 < Q)] at h1
 rw [decide_eq_true (by simp)] at h1
 exact h1
set_option maxHeartbeats 1000000 in
theorem Cell_core (T S K L Q kd i f m a : Int) (w : World) (h : RightC T S K L Q) (hof : ∀ w, Calls Tryz.prog 83 #[.agg #[.int .i64 T, .int .i64 S, .int .i64 K, .int .i64 L, .int .u64 Q], .int .i64 kd] w fun e w' => e = .returned (.agg #[.int .i64 f, .int .i64 m, .int .i64 a]) ∧ Below w.heap.size w w')
  (hi0 : 0 ≤ i) (hi1 : i < m) (hf0 : 0 ≤ f) (hf1 : f ≤ 100) (hm : m ≤ 12) (ha0 : 1 ≤ a) (ha1 : a ≤ 4) (hia : 0 ≤ i * a ∧ i * a ≤ 48) :
  Calls Tryz.prog 81 #[.agg #[.int .i64 T, .int .i64 S, .int .i64 K, .int .i64 L, .int .u64 Q], .agg #[.int .i64 kd, .int .i64 i]] w fun e w' => e = .returned (.int .i64 (f + i * a)) ∧ Below w.heap.size w w' := by
 obtain ⟨hia0, hia1⟩ := hia
 have hR := fun w => Right_yes T S K L Q w h
 have hm0 : (m == 0) = false := by simp; omega
 clear h
 have b1 := blk_alloc (blk_new w (.cells #[.int .i64 T, .int .i64 S, .int .i64 K, .int .i64 L, .int .u64 Q] 24)) (.cells #[.int .i64 kd, .int .i64 i] 158)
 have b2 := blk_new2 w (.cells #[.int .i64 T, .int .i64 S, .int .i64 K, .int .i64 L, .int .u64 Q] 24) (.cells #[.int .i64 kd, .int .i64 i] 158)
 have hB := below_alloc (below_alloc (Below.refl w.heap.size w) (.cells #[.int .i64 T, .int .i64 S, .int .i64 K, .int .i64 L, .int .u64 Q] 24)) (.cells #[.int .i64 kd, .int .i64 i] 158)
 go_enter Tryz.func81, Tryz.ntmps81
 go_wp2_with fail
 generalize (w.alloc (.cells #[.int .i64 T, .int .i64 S, .int .i64 K, .int .i64 L, .int .u64 Q] 24)).alloc (.cells #[.int .i64 kd, .int .i64 i] 158) = W at *
 refine (hof _).mono ?_
 rintro e w1 ⟨rfl, hb1⟩
 have p1 := blk_alloc (blk_below b1 hb1) (.cells #[.int .i64 f, .int .i64 m, .int .i64 a] 165)
 have p2 := blk_alloc (blk_below b2 hb1) (.cells #[.int .i64 f, .int .i64 m, .int .i64 a] 165)
 have p3 := blk_new w1 (.cells #[.int .i64 f, .int .i64 m, .int .i64 a] 165)
 have hB2 := below_alloc (below_then hB hb1) (.cells #[.int .i64 f, .int .i64 m, .int .i64 a] 165)
 have c0 := blk_cell p1 0
 have c1 := blk_cell p1 1
 have c2 := blk_cell p1 2
 have c3 := blk_cell p1 3
 have c4 := blk_cell p1 4
 simp at c0 c1 c2 c3 c4
 go_wp2_with fail
 refine (hR _).mono ?_
 rintro e w2 ⟨rfl, hb2⟩
 have q2 := blk_below p2 hb2
 have q3 := blk_below p3 hb2
 clear c0 c1 c2 c3 c4
 have d0 := blk_cell q2 0
 have d1 := blk_cell q2 1
 have s0 := blk_cell q3 0
 have s1 := blk_cell q3 1
 have s2 := blk_cell q3 2
 simp at d0 d1 s0 s1 s2
 go_wp2_with fail
 go_ret
 exact ⟨rfl, below_then hB2 hb2⟩
structure Cfg where
 T : Int
 S : Int
 K : Int
 L : Int
 Q : Int
def Cfg.right (c : Cfg) : Prop := RightC c.T c.S c.K c.L c.Q
inductive Spot
 | tally | epoch | pin (t : Nat) | status (s : Nat) | snapshot (s : Nat) | number (s : Nat) | retired (s : Nat) | key (k : Nat)
 deriving DecidableEq
def Spot.kind : Spot → Int
 | .tally => 1 | .epoch => 2 | .pin _ => 3 | .status _ => 4 | .snapshot _ => 5 | .number _ => 6 | .retired _ => 7 | .key _ => 8
def Spot.of : Spot → Nat
 | .tally => 0 | .epoch => 0 | .pin t => t | .status s => s | .snapshot s => s | .number s => s | .retired s => s | .key k => k
def Spot.ok (c : Cfg) : Spot → Prop
 | .tally => True | .epoch => True | .pin t => (t : Int) < c.T | .status s => (s : Int) < c.S | .snapshot s => (s : Int) < c.S | .number s => (s : Int) < c.S | .retired s => (s : Int) < c.S | .key k => (k : Int) < c.K
def Spot.at (c : Cfg) : Spot → Int
 | .tally => 0 | .epoch => 1 | .pin t => 2 + (t : Int) | .status s => 2 + c.T + 4 * (s : Int) | .snapshot s => 2 + c.T + 1 + 4 * (s : Int) | .number s => 2 + c.T + 2 + 4 * (s : Int) | .retired s => 2 + c.T + 3 + 4 * (s : Int) | .key k => 2 + c.T + 4 * c.S + (k : Int)
def Cfg.len (c : Cfg) : Int := 2 + c.T + 4 * c.S + c.K
def Cfg.val (c : Cfg) : Value := .agg #[.int .i64 c.T, .int .i64 c.S, .int .i64 c.K, .int .i64 c.L, .int .u64 c.Q]
theorem Cell_any (c : Cfg) (s : Spot) (w : World) (hc : c.right) (hs : s.ok c) : Calls Tryz.prog 81 #[c.val, .agg #[.int .i64 s.kind, .int .i64 (s.of : Int)]] w fun e w' => e = .returned (.int .i64 (s.at c)) ∧ Below w.heap.size w w' := by
 have hc' := hc
 obtain ⟨a1, a2, a3, a4, a5, a6, a7, a8, a9, a10⟩ := hc
 cases s <;> simp only [Spot.kind, Spot.of, Spot.at, Spot.ok, Cfg.val] at hs ⊢
 case tally => exact Cell_core c.T c.S c.K c.L c.Q 1 0 0 1 1 w hc' (fun w => of_1 _ _ _ _ _ w a1 a2 a3 a4) (by omega) (by omega) (by omega) (by omega) (by omega) (by omega) (by omega) (by omega)
 case epoch => exact Cell_core c.T c.S c.K c.L c.Q 2 0 1 1 1 w hc' (fun w => of_2 _ _ _ _ _ w a1 a2 a3 a4) (by omega) (by omega) (by omega) (by omega) (by omega) (by omega) (by omega) (by omega)
 case pin t =>
  have h := Cell_core c.T c.S c.K c.L c.Q 3 t 2 c.T 1 w hc' (fun w => of_3 _ _ _ _ _ w a1 a2 a3 a4) (by omega) (by omega) (by omega) (by omega) (by omega) (by omega) (by omega) (by omega)
  rw [show 2 + (t : Int) * 1 = 2 + (t : Int) by omega] at h
  exact h
 case status t =>
  have h := Cell_core c.T c.S c.K c.L c.Q 4 t _ c.S 4 w hc' (fun w => of_4 _ _ _ _ _ w a1 a2 a3 a4) (by omega) (by omega) (by omega) (by omega) (by omega) (by omega) (by omega) (by omega)
  rw [show 2 + c.T + (t : Int) * 4 = 2 + c.T + 4 * (t : Int) by omega] at h
  exact h
 case snapshot t =>
  have h := Cell_core c.T c.S c.K c.L c.Q 5 t _ c.S 4 w hc' (fun w => of_5 _ _ _ _ _ w a1 a2 a3 a4) (by omega) (by omega) (by omega) (by omega) (by omega) (by omega) (by omega) (by omega)
  rw [show 2 + c.T + 1 + (t : Int) * 4 = 2 + c.T + 1 + 4 * (t : Int) by omega] at h
  exact h
 case number t =>
  have h := Cell_core c.T c.S c.K c.L c.Q 6 t _ c.S 4 w hc' (fun w => of_6 _ _ _ _ _ w a1 a2 a3 a4) (by omega) (by omega) (by omega) (by omega) (by omega) (by omega) (by omega) (by omega)
  rw [show 2 + c.T + 2 + (t : Int) * 4 = 2 + c.T + 2 + 4 * (t : Int) by omega] at h
  exact h
 case retired t =>
  have h := Cell_core c.T c.S c.K c.L c.Q 7 t _ c.S 4 w hc' (fun w => of_7 _ _ _ _ _ w a1 a2 a3 a4) (by omega) (by omega) (by omega) (by omega) (by omega) (by omega) (by omega) (by omega)
  rw [show 2 + c.T + 3 + (t : Int) * 4 = 2 + c.T + 3 + 4 * (t : Int) by omega] at h
  exact h
 case key t =>
  have h := Cell_core c.T c.S c.K c.L c.Q 8 t _ c.K 1 w hc' (fun w => of_8 _ _ _ _ _ w a1 a2 a3 a4) (by omega) (by omega) (by omega) (by omega) (by omega) (by omega) (by omega) (by omega)
  rw [show 2 + c.T + 4 * c.S + (t : Int) * 1 = 2 + c.T + 4 * c.S + (t : Int) by omega] at h
  exact h
theorem Spot.at_bd {c : Cfg} {s : Spot} (hc : c.right) (hs : s.ok c) : 0 ≤ s.at c ∧ s.at c < c.len := by
 obtain ⟨a1, a2, a3, a4, a5, a6, a7, a8, a9, a10⟩ := hc
 cases s <;> simp only [Spot.at, Spot.ok, Cfg.len] at hs ⊢ <;> omega
theorem Spot.at_inj {c : Cfg} {s t : Spot} (hc : c.right) (hs : s.ok c) (ht : t.ok c) (h : s.at c = t.at c) : s = t := by
 obtain ⟨a1, a2, a3, a4, a5, a6, a7, a8, a9, a10⟩ := hc
 cases s <;> cases t <;> simp only [Spot.at, Spot.ok] at hs ht h <;> first | rfl | (congr 1; omega) | omega
def memV (c : Cfg) (wb : Nat) (a b d o n : Int) (e : Bool) (cnt : Nat) : Array Value :=
 #[.int .i64 c.T, .int .i64 c.S, .int .i64 c.K, .int .i64 c.L, .int .u64 c.Q, .slice (some ⟨wb, 0, none⟩) c.len.toNat c.len.toNat, .int .i64 a, .int .i64 b, .int .i64 d, .int .u64 o, .int .u64 n, .bool e, .int .i64 (cnt : Int)]
structure MemAt (w : World) (mb wb : Nat) (c : Cfg) (M : Spot → Nat) (cnt : Nat) : Prop where
 right : c.right
 ne : mb ≠ wb
 box : ∃ (a b d o n : Int) (e : Bool), w.heap[mb]? = some (.cells (memV c wb a b d o n e cnt) 162 (0, 0))
 row : ∃ ws : Array Value, w.heap[wb]? = some (.cells ws 22 (0, 0)) ∧ ws.size = c.len.toNat ∧ ∀ s : Spot, s.ok c → ws[(s.at c).toNat]? = some (.int .u64 (M s : Int))
structure Only (L : List Nat) (w w' : World) : Prop where
 os : w'.os = w.os
 tape : w'.tape = w.tape
 output : w'.output = w.output
 size : w.heap.size ≤ w'.heap.size
 block : ∀ k, k < w.heap.size → k ∉ L → w'.heap[k]? = w.heap[k]?
theorem Only.of {L : List Nat} {w w' : World} (h : Below w.heap.size w w') : Only L w w' := ⟨h.os, h.tape, h.output, h.size, fun k hk _ => h.block k hk⟩
theorem Only.trans {L : List Nat} {w w1 w2 : World} (h : Only L w w1) (k : Only L w1 w2) : Only L w w2 :=
 ⟨k.os.trans h.os, k.tape.trans h.tape, k.output.trans h.output, Nat.le_trans h.size k.size, fun i hi hn => (k.block i (Nat.lt_of_lt_of_le hi h.size) hn).trans (h.block i hi hn)⟩
theorem Only.wide {L L' : List Nat} {w w' : World} (h : Only L w w') (hs : ∀ x ∈ L, x ∈ L') : Only L' w w' := ⟨h.os, h.tape, h.output, h.size, fun k hk hn => h.block k hk fun hm => hn (hs k hm)⟩
theorem Only.set {L : List Nat} {w W : World} (h : Only L w W) (g i : Nat) (v : Value) (hg : g ∈ L ∨ w.heap.size ≤ g) : Only L w (W.setCell ⟨g, i, none⟩ v) := by
 refine ⟨h.os, h.tape, h.output, by simpa using h.size, fun k hk hn => ?_⟩
 have hne : k ≠ g := by
  rcases hg with hg | hg
  ·intro e
   subst e
   exact hn hg
  ·omega
 exact (Below.heap_setCell W ⟨g, i, none⟩ v k hne).trans (h.block k hk hn)
theorem Only.alloc {L : List Nat} {w W : World} (h : Only L w W) (o : Obj) : Only L w (W.alloc o) :=
 h.trans (.of (below_alloc (Below.refl _ _) o))
theorem Only.blk {L : List Nat} {w w' : World} {g : Nat} {o : Obj} (h : Only L w w') (hg : g ∉ L) (c : w.heap[g]? = some o) : w'.heap[g]? = some o := (h.block g (blk_lt c) hg).trans c
theorem MemAt.keep {L : List Nat} {w w' : World} {mb wb : Nat} {c : Cfg} {M : Spot → Nat} {cnt : Nat} (h : MemAt w mb wb c M cnt) (k : Only L w w') (h1 : mb ∉ L) (h2 : wb ∉ L) : MemAt w' mb wb c M cnt := by
 obtain ⟨a, b, d, o, n, e, hb⟩ := h.box
 obtain ⟨ws, hw, hs, hm⟩ := h.row
 exact ⟨h.right, h.ne, ⟨a, b, d, o, n, e, k.blk h1 hb⟩, ws, k.blk h2 hw, hs, hm⟩
set_option maxHeartbeats 2000000 in
theorem touch_any (mb wb : Nat) (c : Cfg) (M : Spot → Nat) (cnt : Nat) (kd : Int) (s : Spot) (k : Nat) (rc : Value) (nw : Nat) (dn : Bool) (w : World) (hm : MemAt w mb wb c M cnt) (hs : s.ok c)
  (hf : ∀ w, Calls Tryz.prog k #[rc, .int .u64 (M s : Int)] w fun e w' => e = .returned (.tuple #[.int .u64 (nw : Int), .bool dn]) ∧ Below w.heap.size w w') (hk : ∀ (x : Value) w, (callFunc k #[rc, x]).run Tryz.prog w = .ok (.enter k #[rc, x]) w) (hcnt : cnt < 1000000000) :
  Calls Tryz.prog 166 #[.pointer (some ⟨mb, 0, none⟩), .int .i64 kd, .agg #[.int .i64 s.kind, .int .i64 (s.of : Int)], .func (.func k) #[rc] #[]] w fun e w' =>
   e = .returned (.agg #[.int .i64 kd, .int .i64 s.kind, .int .i64 (s.of : Int), .int .u64 (M s : Int), .int .u64 (nw : Int), .bool dn]) ∧ Only [mb, wb] w w' ∧ MemAt w' mb wb c (fun t => if t = s then nw else M t) (cnt + 1) := by
 obtain ⟨a, b, d, o, n, e, hb⟩ := hm.box
 obtain ⟨ws, hw, hws, hM⟩ := hm.row
 have hC := fun w => Cell_any c s w hm.right hs
 have hne := hm.ne
 obtain ⟨ha0, ha1⟩ := Spot.at_bd hm.right hs
 have hMs := hM s hs
 obtain ⟨p, hp⟩ := Int.eq_ofNat_of_zero_le ha0
 rw [hp] at hMs hC ha1
 have hP := hid hp
 have hlen : (p : Int) < (c.len.toNat : Int) := by omega
 clear hp ha0
 unfold Cfg.val at hC
 go_enter Tryz.func166, Tryz.ntmps166
 go_wp2_with fail
 have B1 := blk_alloc (blk_alloc (blk_new w (.cells #[.int .i64 s.kind, .int .i64 (s.of : Int)] 158)) (.cells #[.int .i64 0, .int .i64 0, .int .i64 0, .int .u64 0, .int .u64 0, .bool false] 160)) (.cells #[.int .i64 kd, .int .i64 s.kind, .int .i64 (s.of : Int), .int .u64 0, .int .u64 0, .bool false] 160)
 have B2 := blk_alloc (blk_new2 w (.cells #[.int .i64 s.kind, .int .i64 (s.of : Int)] 158) (.cells #[.int .i64 0, .int .i64 0, .int .i64 0, .int .u64 0, .int .u64 0, .bool false] 160)) (.cells #[.int .i64 kd, .int .i64 s.kind, .int .i64 (s.of : Int), .int .u64 0, .int .u64 0, .bool false] 160)
 have B3 := blk_new2 (w.alloc (.cells #[.int .i64 s.kind, .int .i64 (s.of : Int)] 158)) (.cells #[.int .i64 0, .int .i64 0, .int .i64 0, .int .u64 0, .int .u64 0, .bool false] 160) (.cells #[.int .i64 kd, .int .i64 s.kind, .int .i64 (s.of : Int), .int .u64 0, .int .u64 0, .bool false] 160)
 have B4 := blk_alloc (blk_alloc (blk_alloc hb (.cells #[.int .i64 s.kind, .int .i64 (s.of : Int)] 158)) (.cells #[.int .i64 0, .int .i64 0, .int .i64 0, .int .u64 0, .int .u64 0, .bool false] 160)) (.cells #[.int .i64 kd, .int .i64 s.kind, .int .i64 (s.of : Int), .int .u64 0, .int .u64 0, .bool false] 160)
 have B5 := blk_alloc (blk_alloc (blk_alloc hw (.cells #[.int .i64 s.kind, .int .i64 (s.of : Int)] 158)) (.cells #[.int .i64 0, .int .i64 0, .int .i64 0, .int .u64 0, .int .u64 0, .bool false] 160)) (.cells #[.int .i64 kd, .int .i64 s.kind, .int .i64 (s.of : Int), .int .u64 0, .int .u64 0, .bool false] 160)
 have hB := below_alloc (below_alloc (below_alloc (Below.refl w.heap.size w) (.cells #[.int .i64 s.kind, .int .i64 (s.of : Int)] 158)) (.cells #[.int .i64 0, .int .i64 0, .int .i64 0, .int .u64 0, .int .u64 0, .bool false] 160)) (.cells #[.int .i64 kd, .int .i64 s.kind, .int .i64 (s.of : Int), .int .u64 0, .int .u64 0, .bool false] 160)
 rw [show (w.alloc (.cells #[.int .i64 s.kind, .int .i64 (s.of : Int)] 158)).heap.size + 1 = w.heap.size + 1 + 1 by simp] at B3
 generalize ((w.alloc (Obj.cells #[Value.int .i64 s.kind, Value.int .i64 (s.of : Int)] 158)).alloc (.cells #[.int .i64 0, .int .i64 0, .int .i64 0, .int .u64 0, .int .u64 0, .bool false] 160)).alloc (.cells #[.int .i64 kd, .int .i64 s.kind, .int .i64 (s.of : Int), .int .u64 0, .int .u64 0, .bool false] 160) = W at *
 unfold memV at B4
 have m0 := blk_cell B4 0
 have m1 := blk_cell B4 1
 have m2 := blk_cell B4 2
 have m3 := blk_cell B4 3
 have m4 := blk_cell B4 4
 have s0 := blk_cell B1 0
 have s1 := blk_cell B1 1
 simp at m0 m1 m2 m3 m4 s0 s1
 have r0 := cell_regrown m0
 have r1 := cell_regrown m1
 have r2 := cell_regrown m2
 have r3 := cell_regrown m3
 have r4 := cell_regrown m4
 have r5 := cell_regrown s0
 have r6 := cell_regrown s1
 refine wp_region_quiet_below (by kernel_rfl) (by kernel_rfl) ?_
 repeat (go_big_quiet_step (first | (go_at_call 81; exact quiet_call (hC _))))
 refine wpQuiet_nil ?_
 rintro w3 ⟨q3, rfl⟩
 have hw3 := below_regrown W q3.d q3.os
 have hB3 := below_regrow hB q3.d q3.os
 have D1 := blk_below B1 hw3
 have D2 := blk_below B2 hw3
 have D3 := blk_below B3 hw3
 have D4 := blk_below B4 hw3
 have D5 := blk_below B5 hw3
 generalize Go.Sort.grow (redrawn W q3.d) q3.os = W3 at *
 clear r0 r1 r2 r3 r4 r5 r6 m0 m1 m2 m3 m4 s0 s1 B1 B2 B3 B4 B5 hw3 hB
 have m5 := blk_cell D4 5
 have t3 := blk_cell D3 3
 have ft3 := blk_frozen D3 3
 have x0 : W3.cell? ⟨wb, p, none⟩ = some (.int .u64 (M s : Int)) := (blk_cell D5 p).trans hMs
 simp at m5 t3
 generalize hLe : c.len.toNat = len at *
 have HLE := hid hLe
 clear hLe
 go_wp2_with fail
 refine (hf _).mono ?_
 rintro e1 w4 ⟨rfl, hb4⟩
 have E1 := blk_below (blk_far D1 (p := ⟨w.heap.size + 1 + 1, 3, none⟩) (by show w.heap.size ≠ w.heap.size + 1 + 1; omega) (.int .u64 (M s : Int))) hb4
 have E2 := blk_below (blk_far D2 (p := ⟨w.heap.size + 1 + 1, 3, none⟩) (by show w.heap.size + 1 ≠ w.heap.size + 1 + 1; omega) (.int .u64 (M s : Int))) hb4
 have E3 := blk_below (blk_put D3 3 (.int .u64 (M s : Int)) rfl) hb4
 have hmb := blk_lt hb
 have hwb := blk_lt hw
 have E4 := blk_below (blk_far D4 (p := ⟨w.heap.size + 1 + 1, 3, none⟩) (by show mb ≠ w.heap.size + 1 + 1; omega) (.int .u64 (M s : Int))) hb4
 have E5 := blk_below (blk_far D5 (p := ⟨w.heap.size + 1 + 1, 3, none⟩) (by show wb ≠ w.heap.size + 1 + 1; omega) (.int .u64 (M s : Int))) hb4
 have hB4 : Below w.heap.size w w4 := below_then (below_set hB3 (by show w.heap.size ≤ w.heap.size + 1 + 1; omega) _) hb4
 clear m5 t3 ft3 x0 D1 D2 D3 D4 D5 hB3 hb4
 have m5 := blk_cell E4 5
 have fm5 := blk_frozen E4 5
 have t4 := blk_cell E3 4
 have t5 := blk_cell E3 5
 have ft4 := blk_frozen E3 4
 have ft5 := blk_frozen E3 5
 have x0 : w4.cell? ⟨wb, p, none⟩ = some (.int .u64 (M s : Int)) := (blk_cell E5 p).trans hMs
 have fx0 := blk_frozen E5 p
 simp at m5 t4 t5
 have n1 : wb ≠ w.heap.size + 1 + 1 := by omega
 have n2 : mb ≠ w.heap.size + 1 + 1 := by omega
 go_wp2_with fail
 have H3 := blk_put (blk_put E3 4 (.int .u64 (nw : Int)) rfl) 5 (.bool dn) rfl
 have H4 := blk_far (blk_far E4 (p := ⟨w.heap.size + 1 + 1, 4, none⟩) (by show mb ≠ w.heap.size + 1 + 1; omega) (.int .u64 (nw : Int))) (p := ⟨w.heap.size + 1 + 1, 5, none⟩) (by show mb ≠ w.heap.size + 1 + 1; omega) (.bool dn)
 have H5 := blk_far (blk_far E5 (p := ⟨w.heap.size + 1 + 1, 4, none⟩) (by show wb ≠ w.heap.size + 1 + 1; omega) (.int .u64 (nw : Int))) (p := ⟨w.heap.size + 1 + 1, 5, none⟩) (by show wb ≠ w.heap.size + 1 + 1; omega) (.bool dn)
 have H2 := blk_far (blk_far E2 (p := ⟨w.heap.size + 1 + 1, 4, none⟩) (by show w.heap.size + 1 ≠ w.heap.size + 1 + 1; omega) (.int .u64 (nw : Int))) (p := ⟨w.heap.size + 1 + 1, 5, none⟩) (by show w.heap.size + 1 ≠ w.heap.size + 1 + 1; omega) (.bool dn)
 have hB5 := below_set (below_set hB4 (a := ⟨w.heap.size + 1 + 1, 4, none⟩) (by show w.heap.size ≤ w.heap.size + 1 + 1; omega) (.int .u64 (nw : Int))) (a := ⟨w.heap.size + 1 + 1, 5, none⟩) (by show w.heap.size ≤ w.heap.size + 1 + 1; omega) (.bool dn)
 generalize (w4.setCell { block := w.heap.size + 1 + 1, off := 4 } (Value.int IntKind.u64 (nw : Int))).setCell { block := w.heap.size + 1 + 1, off := 5 } (Value.bool dn) = W5 at *
 clear m5 fm5 t4 t5 ft4 ft5 x0 fx0 E1 E2 E3 E4 E5 hB4
 have m5 := blk_cell H4 5
 have t4 := blk_cell H3 4
 have x0 : W5.cell? ⟨wb, p, none⟩ = some (.int .u64 (M s : Int)) := (blk_cell H5 p).trans hMs
 have fx0 := blk_frozen H5 p
 simp at m5 t4
 go_region
 have J3 := blk_drew (blk_far H3 (p := ⟨wb, p, none⟩) (by show w.heap.size + 1 + 1 ≠ wb; omega) (.int .u64 (nw : Int)))
 have J4 := blk_drew (blk_far H4 (p := ⟨wb, p, none⟩) hne (.int .u64 (nw : Int)))
 have J2 := blk_drew (blk_far H2 (p := ⟨wb, p, none⟩) (by show w.heap.size + 1 ≠ wb; omega) (.int .u64 (nw : Int)))
 have J5 := blk_drew (blk_put H5 p (.int .u64 (nw : Int)) rfl)
 have hO : Only [mb, wb] w (W5.setCell ⟨wb, p, none⟩ (.int .u64 (nw : Int))).drew := ((Only.of hB5).set wb p _ (by simp)).trans (.of (below_drew (Below.refl _ _)))
 generalize (W5.setCell ⟨wb, p, none⟩ (.int .u64 (nw : Int))).drew = W6 at *
 clear m5 t4 x0 fx0 H2 H3 H4 H5 hB5
 have t0 := blk_cell J3 0
 have t1 := blk_cell J3 1
 have t2 := blk_cell J3 2
 have t3 := blk_cell J3 3
 have t4 := blk_cell J3 4
 have t5 := blk_cell J3 5
 have y6 := blk_cell J4 6
 have y7 := blk_cell J4 7
 have y8 := blk_cell J4 8
 have y9 := blk_cell J4 9
 have y10 := blk_cell J4 10
 have y11 := blk_cell J4 11
 have y12 := blk_cell J4 12
 have fy6 := blk_frozen J4 6
 have fy7 := blk_frozen J4 7
 have fy8 := blk_frozen J4 8
 have fy9 := blk_frozen J4 9
 have fy10 := blk_frozen J4 10
 have fy11 := blk_frozen J4 11
 have fy12 := blk_frozen J4 12
 have z0 := blk_cell J2 0
 have z1 := blk_cell J2 1
 have z2 := blk_cell J2 2
 have z3 := blk_cell J2 3
 have z4 := blk_cell J2 4
 have z5 := blk_cell J2 5
 have fz0 := blk_frozen J2 0
 have fz1 := blk_frozen J2 1
 have fz2 := blk_frozen J2 2
 have fz3 := blk_frozen J2 3
 have fz4 := blk_frozen J2 4
 have fz5 := blk_frozen J2 5
 simp at t0 t1 t2 t3 t4 t5 y6 y7 y8 y9 y10 y11 y12 z0 z1 z2 z3 z4 z5
 have n3 : w.heap.size + 1 + 1 ≠ mb := by omega
 have n4 : w.heap.size + 1 ≠ mb := by omega
 have n5 : mb ≠ w.heap.size + 1 := by omega
 have n6 : w.heap.size + 1 ≠ w.heap.size + 1 + 1 := by omega
 go_wp2_with fail
 have hne' : wb ≠ mb := Ne.symm hne
 have n7 : wb ≠ w.heap.size + 1 := by omega
 have K4 := (blk_far (blk_far (blk_far (blk_far (blk_far (blk_far (blk_put (blk_put (blk_put (blk_put (blk_put (blk_put (blk_put J4 6 (.int .i64 kd) rfl) 7 (.int .i64 s.kind) rfl) 8 (.int .i64 (s.of : Int)) rfl) 9 (.int .u64 (M s : Int)) rfl) 10 (.int .u64 (nw : Int)) rfl) 11 (.bool dn) rfl) 12 (.int .i64 ((cnt : Int) + 1)) rfl) (p := ⟨w.heap.size + 1, 0, none⟩) n5 (.int .i64 kd)) (p := ⟨w.heap.size + 1, 1, none⟩) n5 (.int .i64 s.kind)) (p := ⟨w.heap.size + 1, 2, none⟩) n5 (.int .i64 (s.of : Int))) (p := ⟨w.heap.size + 1, 3, none⟩) n5 (.int .u64 (M s : Int))) (p := ⟨w.heap.size + 1, 4, none⟩) n5 (.int .u64 (nw : Int))) (p := ⟨w.heap.size + 1, 5, none⟩) n5 (.bool dn))
 have K2 := (blk_put (blk_put (blk_put (blk_put (blk_put (blk_put (blk_far (blk_far (blk_far (blk_far (blk_far (blk_far (blk_far J2 (p := ⟨mb, 6, none⟩) n4 (.int .i64 kd)) (p := ⟨mb, 7, none⟩) n4 (.int .i64 s.kind)) (p := ⟨mb, 8, none⟩) n4 (.int .i64 (s.of : Int))) (p := ⟨mb, 9, none⟩) n4 (.int .u64 (M s : Int))) (p := ⟨mb, 10, none⟩) n4 (.int .u64 (nw : Int))) (p := ⟨mb, 11, none⟩) n4 (.bool dn)) (p := ⟨mb, 12, none⟩) n4 (.int .i64 ((cnt : Int) + 1))) 0 (.int .i64 kd) rfl) 1 (.int .i64 s.kind) rfl) 2 (.int .i64 (s.of : Int)) rfl) 3 (.int .u64 (M s : Int)) rfl) 4 (.int .u64 (nw : Int)) rfl) 5 (.bool dn) rfl)
 have K5 := (blk_far (blk_far (blk_far (blk_far (blk_far (blk_far (blk_far (blk_far (blk_far (blk_far (blk_far (blk_far (blk_far J5 (p := ⟨mb, 6, none⟩) hne' (.int .i64 kd)) (p := ⟨mb, 7, none⟩) hne' (.int .i64 s.kind)) (p := ⟨mb, 8, none⟩) hne' (.int .i64 (s.of : Int))) (p := ⟨mb, 9, none⟩) hne' (.int .u64 (M s : Int))) (p := ⟨mb, 10, none⟩) hne' (.int .u64 (nw : Int))) (p := ⟨mb, 11, none⟩) hne' (.bool dn)) (p := ⟨mb, 12, none⟩) hne' (.int .i64 ((cnt : Int) + 1))) (p := ⟨w.heap.size + 1, 0, none⟩) n7 (.int .i64 kd)) (p := ⟨w.heap.size + 1, 1, none⟩) n7 (.int .i64 s.kind)) (p := ⟨w.heap.size + 1, 2, none⟩) n7 (.int .i64 (s.of : Int))) (p := ⟨w.heap.size + 1, 3, none⟩) n7 (.int .u64 (M s : Int))) (p := ⟨w.heap.size + 1, 4, none⟩) n7 (.int .u64 (nw : Int))) (p := ⟨w.heap.size + 1, 5, none⟩) n7 (.bool dn))
 have hO2 := (((((((((((((hO.set mb 6 (.int .i64 kd) (by simp)).set mb 7 (.int .i64 s.kind) (by simp)).set mb 8 (.int .i64 (s.of : Int)) (by simp)).set mb 9 (.int .u64 (M s : Int)) (by simp)).set mb 10 (.int .u64 (nw : Int)) (by simp)).set mb 11 (.bool dn) (by simp)).set mb 12 (.int .i64 ((cnt : Int) + 1)) (by simp)).set (w.heap.size + 1) 0 (.int .i64 kd) (by right; omega)).set (w.heap.size + 1) 1 (.int .i64 s.kind) (by right; omega)).set (w.heap.size + 1) 2 (.int .i64 (s.of : Int)) (by right; omega)).set (w.heap.size + 1) 3 (.int .u64 (M s : Int)) (by right; omega)).set (w.heap.size + 1) 4 (.int .u64 (nw : Int)) (by right; omega)).set (w.heap.size + 1) 5 (.bool dn) (by right; omega))
 refine bodyPost_ret (results_cell_row rfl _ _ (w.heap.size + 1) 160 #[.int .i64 kd, .int .i64 s.kind, .int .i64 (s.of : Int), .int .u64 (M s : Int), .int .u64 (nw : Int), .bool dn] (0, 0) _ rfl K2 Tryz.underlying160 rfl (by kernel_rfl)) rfl ⟨rfl, hO2, ?_⟩
 refine ⟨hm.right, hne, ⟨kd, s.kind, s.of, M s, nw, dn, ?_⟩, _, K5, by rw [Array.size_setIfInBounds, hws, HLE.out], fun t ht => ?_⟩
 ·unfold memV
  rw [HLE.out]
  exact K4
 ·by_cases e : t = s
  ·have hlt : p < ws.size := by rw [hws]; omega
   rw [if_pos e, e, hP.out, show ((p : Nat) : Int).toNat = p from Int.toNat_natCast p, Array.getElem?_setIfInBounds_self_of_lt hlt]
  ·rw [if_neg e]
   have hne2 : p ≠ (t.at c).toNat := by
    intro h
    obtain ⟨z0, z1⟩ := Spot.at_bd hm.right ht
    exact e (Spot.at_inj hm.right ht hs (by rw [hP.out]; omega))
   rw [Array.getElem?_setIfInBounds_ne hne2]
   exact hM t ht
end Go.Proofs.YtfinmiakbpmjiaaGreat
