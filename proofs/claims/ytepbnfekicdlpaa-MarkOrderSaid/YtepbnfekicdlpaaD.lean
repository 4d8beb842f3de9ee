/-
  The row of the slots that are marked, but for one.
-/
import Derived.Test.YtepbnfekicdlpaaC
namespace Go.Proofs.Ytepbnfekicdlpaa
open Go.RowKit Go.Shelf
set_option linter.unusedVariables false
set_option linter.unusedSimpArgs false
attribute [local go_sem] Oper.semAt_some
theorem all_in (x : Nat) (k : Int) (w : World) :
    CallsIn Fence.wide 3 Try.prog 25 #[.int .u64 (x : Int), .int .i64 k] w fun e w' => e = .returned (.func (.func 27) #[] #[.pointer (some ⟨w.heap.size, 0, none⟩), .pointer (some ⟨w.heap.size + 1, 0, none⟩)]) ∧ w' = (w.alloc (.cells #[.int .u64 (x : Int)] 22)).alloc (.cells #[.int .i64 k] 3) := by
  refine callsIn_of_wp Try.func25 rfl trivial ?_ rfl
  simp only [Try.ntmps25, List.size_toArray, List.length_cons, List.length_nil, Nat.reduceAdd, Nat.reduceSub, Array.replicate_succ, Array.replicate_zero, List.push_toArray, List.append_toArray, List.nil_append, List.cons_append]
  gi_wp2
  go_ret
  exact ⟨rfl, rfl⟩
theorem Try.info3 : (Try.prog.info? 3).map (fun i => (i.zero, i.size, i.bytes)) = some (some (.int .i64 0), 1, 8) := by kernel_rfl
/-- But for one. -/
def but (s : Int) (l : List Int) : List Int := l.filter fun y => y != s
theorem but_hit {s y : Int} (pre : List Int) (h : y ≠ s) : but s (pre ++ [y]) = but s pre ++ [y] := by simp [but, h]
theorem but_miss {s y : Int} (pre : List Int) (h : y = s) : but s (pre ++ [y]) = but s pre := by simp [but, h]
theorem own_base {w : World} {base : Nat} {e : TypeId} {size n : Nat} {v : Value} {xs : List Value} (h : w.ownsRow base e size v n xs) (k : Nat) (hk : v.ownBlock = some k) : base ≤ k := by
  rcases h.2 with ⟨rfl, _⟩ | ⟨g, cap, cur, rfl, hb, _⟩
  · simp [Value.ownBlock] at hk
  · have : g = k := by simpa [Value.ownBlock] using hk
    omega
/-- A block below an owned row's base, behind an append to that row and a store into a third block. -/
theorem blk_appended {W w1 : World} {tmp : Obj} {base : Nat} {e : TypeId} {size n : Nat} {v v' : Value} {xs : List Value} (h : W.ownsRow base e size v n xs) (hg : (W.alloc tmp).grownBy w1 v.ownBlock) {i B : Nat} (hi : i < W.heap.size) (hb : i < base) (hne : i ≠ B) :
    (w1.setCell ⟨B, 0, none⟩ v').heap[i]? = W.heap[i]? := by
  rw [Below.heap_setCell _ _ _ _ hne, hg.block i (by simp; omega) (fun e' => by have := own_base h i e'.symm; omega), Below.heap_alloc _ _ _ hi]
set_option maxRecDepth 100000 in
set_option maxHeartbeats 2000000 in
theorem Others_in (x : Nat) (hx : x < 18446744073709551616) (k s : Int) (w : World) :
    CallsIn Fence.wide 4 Try.prog 20 #[.int .u64 (x : Int), .int .i64 k, .int .i64 s] w fun e W' => ∃ v, e = .returned v ∧ W'.ownsRow w.heap.size 3 1 v (but s (upto x k 12)).length ((but s (upto x k 12)).map (Value.int .i64)) ∧ Below w.heap.size w W' := by
  have h1 : 1 ≤ 4 := by omega
  obtain ⟨i0, hi, hz0, hz1, hz2⟩ := info_parts Try.info3
  refine callsIn_of_wp_marks Try.func20 rfl trivial ?_ rfl
  simp only [Try.ntmps20, List.size_toArray, List.length_cons, List.length_nil, Nat.reduceAdd, Nat.reduceSub, Array.replicate_succ, Array.replicate_zero, List.push_toArray, List.append_toArray, List.nil_append, List.cons_append]
  gi_wp2_with (refine ⟨trivial, ?_⟩; gi_at_call 25; refine (all_in _ _ _).mono ?_; rintro e w' ⟨rfl, rfl⟩)
  have bS : Boxed ((((w.alloc (.cells #[.int .i64 s] 3)).alloc (.cells #[.slice none 0 0] 29)).alloc (.cells #[.int .u64 (x : Int)] 22)).alloc (.cells #[.int .i64 k] 3)) w.heap.size 3 (.int .i64 s) := (((Boxed.new w 3 (.int .i64 s)).alloc _).alloc _).alloc _
  have bO := Boxed.new (w.alloc (.cells #[.int .i64 s] 3)) 29 (.slice none 0 0)
  rw [World.size_alloc] at bO
  have bW := Boxed.new ((w.alloc (.cells #[.int .i64 s] 3)).alloc (.cells #[.slice none 0 0] 29)) 22 (.int .u64 (x : Int))
  rw [World.size_alloc, World.size_alloc] at bW
  have bK := Boxed.new (((w.alloc (.cells #[.int .i64 s] 3)).alloc (.cells #[.slice none 0 0] 29)).alloc (.cells #[.int .u64 (x : Int)] 22)) 3 (.int .i64 k)
  rw [World.size_alloc, World.size_alloc, World.size_alloc] at bK
  have hB0 : Below w.heap.size w ((((w.alloc (.cells #[.int .i64 s] 3)).alloc (.cells #[.slice none 0 0] 29)).alloc (.cells #[.int .u64 (x : Int)] 22)).alloc (.cells #[.int .i64 k] 3)) := below_alloc (below_alloc (below_alloc (below_alloc (Below.refl _ _) _) _) _) _
  refine wpIn_rangeFunc_ownG rfl h1 (gf := 27) (lb := #[.pointer (some ⟨w.heap.size + 1 + 1, 0, none⟩), .pointer (some ⟨w.heap.size + 1 + 1 + 1, 0, none⟩)]) rfl trivial (enters_of Try.func27 (by kernel_rfl) rfl)
    (all_stops x hx k (w.heap.size + 1 + 1) (w.heap.size + 1 + 1 + 1) _ (bW.alloc _) bK) (fun {A B C} h k => K2.trans h k)
    (fun W l o o' hl ho _ _ => ⟨World.putObj_heap_other (by simp at hl; omega), World.putObj_heap_other (by simp at hl; omega)⟩) (Below.refl _ _) (fun _ => rfl)
    (fun pre W => (∃ v, Boxed W (w.heap.size + 1) 29 v ∧ W.ownsRow (w.heap.size + 4) 3 1 v (but s pre).length ((but s pre).map (Value.int .i64)) ∧ True) ∧ (Boxed W w.heap.size 3 (.int .i64 s) ∧ (Below w.heap.size w W ∧ w.heap.size + 4 ≤ W.heap.size)))
    (fun _ _ _ => False)
    (OwnFrom.and (Own.from (holdsRow_own (w.heap.size + 4) (w.heap.size + 1) 29 3 1 (fun pre => (but s pre).length) (fun pre => (but s pre).map (Value.int .i64)) (fun _ _ => True)) _) (OwnFrom.and (Own.from (boxed_own w.heap.size 3 (fun _ => .int .i64 s)) _) (OwnFrom.and (ownFrom_below (Nat.le_refl _) (by simp; omega)) (fun _ _ _ _ hs hg _ => Nat.le_trans hs hg.size))))
    (fun _ _ _ _ _ hs _ _ => hs)
    ⟨⟨_, (bO.alloc _).alloc _, World.ownsRow_nil _ _ _ _, trivial⟩, bS, hB0, by simp⟩
    (fun y => { tmps := #[.int .u64 (x : Int), .int .i64 k, .int .i64 s, undef, undef, .pointer (some ⟨w.heap.size, 0, none⟩), .slice none 0 0, .pointer (some ⟨w.heap.size + 1, 0, none⟩), .int .i64 y, .int .u64 (x : Int), .int .i64 k, .func (.func 27) #[] #[.pointer (some ⟨w.heap.size + 1 + 1, 0, none⟩), .pointer (some ⟨w.heap.size + 1 + 1 + 1, 0, none⟩)], .int .i64 y, undef, undef, undef, undef, undef, undef, undef, undef], defers := [] }) ?assign ?body ?done ?stop
  case assign =>
    intro l y W K hK
    gi_wp2
    exact hK
  case body =>
    rintro l pre y W ⟨⟨v, hv, hrow, _⟩, hS, hB, hsz⟩ hlt
    have hc := hv.cell
    have hcs := hS.cell
    have hpl : (but s pre).length ≤ pre.length := List.length_filter_le _ _
    have hrow1 : W.ownsRow (w.heap.size + 1) 3 1 v (but s pre).length ((but s pre).map (Value.int .i64)) := Go.Joins.ownsRow_le hrow (by omega)
    cases hys : (y != s) with
    | true =>
      have hne : y ≠ s := by simpa using hys
      gi_wp2_with (gi_at_builtin; refine wpListIn_append_own _ rfl _ _ 29 rfl (w.heap.size + 4) 3 i0 (.int .i64 0) 1 8 Try.underlying29 hi hz0 hz1 hz2 rfl (by decide) _ _ _ rfl (hrow.alloc _) ⟨W.heap.size, 0, none⟩ 1 1 [.int .i64 y] rfl rfl (cell_one_new _ _ _) (by simp [Value.oneCell']) (by unfold maxLen; omega) (by omega) (by simp; omega) ?_; intro v' w1 hown' hgrow _; obtain ⟨g', cap', rfl⟩ := ownsRow_succ hown'; obtain ⟨hv1, hv2, hr2, hk2, hb2⟩ := hv.appended (by decide) hrow1 (by omega) (Nat.le_refl _) (Go.Joins.ownsRow_le hown' (by omega)) hgrow; have hc1 := hv1.cell; have hf1 := hv1.frozen)
      refine ⟨hk2.from _, ⟨blk_appended hrow hgrow (by omega) (by omega) (by omega), blk_appended hrow hgrow (by omega) (by omega) (by omega)⟩, ⟨_, hv2, ?_, trivial⟩, (blk_appended hrow hgrow (by omega) (by omega) (by omega)).trans hS, hB.trans (hb2.mono (by omega)), Nat.le_trans hsz hb2.size⟩
      have hr3 := hown'.kept (grownBy_setCell' w1 (w.heap.size + 1) (Value.slice (some ⟨g', 0, none⟩) ((but s pre).length + 1) cap')) (.inr (hv1.not_row (by decide) hown').symm)
      rw [but_hit pre hne]
      simpa using hr3
    | false =>
      have hne : y = s := by simpa using hys
      gi_wp2
      exact ⟨KeepsFrom.refl _ _, ⟨rfl, rfl⟩, ⟨v, hv, by rw [but_miss pre hne]; exact hrow, trivial⟩, hS, hB, hsz⟩
  case done =>
    rintro D ys W hD rfl ⟨⟨v, hv, hrow, _⟩, hS, hB, hsz⟩ hK
    have hc := hv.cell
    gi_wp2
    refine ⟨by simp, .inl ⟨_, _, rfl, run_takeDeferred hK, ?_⟩⟩
    exact ⟨_, results_tmp rfl _ _ _, v, rfl, ownsRow_putObj (Go.Joins.ownsRow_le hrow (by omega)) _ hK rfl, hB.trans (belowK_b (w := w) (Nat.le_refl _) W D _ _ (by simp at hD; omega) hK rfl rfl)⟩
  case stop =>
    rintro D c pre W _ _ h _
    exact h.elim
/-- What a row of numbers that the call has made gives back. -/
def RetInts (L : List Int) (w : World) (e : Ending) (w' : World) : Prop := ∃ a c, e = .returned (.slice a L.length c) ∧ IsInts .i64 w' a L.length L ∧ Below w.heap.size w w'
theorem retInts_of {L : List Int} {w w' : World} {e : Ending} {v : Value} {base : Nat} (he : e = .returned v) (ho : w'.ownsRow base 3 1 v L.length (L.map (Value.int .i64))) (hw : ∀ y ∈ L, (Lit.int .i64 y).wf = true) (hb : Below w.heap.size w w') : RetInts L w e w' := by
  have hmem : ∀ i, i < L.length → (Lit.int .i64 (L.getD i 0)).wf = true := fun i hi => by
    have : L.getD i 0 = L[i] := by simp [List.getD_eq_getElem?_getD, hi]
    rw [this]; exact hw _ (List.getElem_mem _)
  rcases Nat.eq_zero_or_pos L.length with h0 | h0
  · rcases ho.2 with ⟨hv, _⟩ | ⟨g, cap, cur, hv, _⟩
    · exact ⟨none, 0, by rw [he, hv, h0], ⟨rfl, by omega, hmem, fun h => by omega⟩, hb⟩
    · exact ⟨_, cap, by rw [he, hv], ⟨rfl, by omega, hmem, fun h => by omega⟩, hb⟩
  · obtain ⟨g, cap, hv⟩ := Go.Joins.ownsRow_form ho h0
    have hm : L.length ≤ maxLen := by
      rcases ho.2 with ⟨_, h1⟩ | ⟨g', cap', cur, he', _, _, h1, h2, _⟩
      · omega
      · omega
    refine ⟨some ⟨g, 0, none⟩, cap, by rw [he, hv], ⟨rfl, hm, hmem, fun _ => ⟨_, rfl, fun j hj => ?_⟩⟩, hb⟩
    refine ho.cells (g := g) (by rw [hv]; rfl) j _ ?_
    simp [List.getElem?_eq_getElem hj, List.getD_eq_getElem?_getD]
theorem upto_wf (x : Nat) (k : Int) (m : Nat) (hm : m ≤ 12) : ∀ y ∈ upto x k m, (Lit.int .i64 y).wf = true := by
  intro y hy
  unfold upto at hy
  rw [List.mem_map] at hy
  obtain ⟨i, hi, rfl⟩ := hy
  have := List.mem_range.1 (List.mem_filter.1 hi).1
  simp [Lit.wf, IntKind.min, IntKind.max, IntKind.signed, IntKind.bits]
  omega
theorem but_wf (s : Int) {l : List Int} (h : ∀ y ∈ l, (Lit.int .i64 y).wf = true) : ∀ y ∈ but s l, (Lit.int .i64 y).wf = true :=
  fun y hy => h y (List.mem_filter.1 hy).1
theorem Others_any (x : Nat) (k s : Int) (w : World) (hx : x < 18446744073709551616) :
    Calls Try.prog 20 #[.int .u64 (x : Int), .int .i64 k, .int .i64 s] w (RetInts (but s (upto x k 12)) w) :=
  (callsIn_wide.1 (Others_in x hx k s w)).mono fun e w' ⟨v, he, ho, hb⟩ => retInts_of he ho (but_wf s (upto_wf x k 12 (by omega))) hb
theorem Slots_any (x : Nat) (k : Int) (w : World) (hx : x < 18446744073709551616) :
    Calls Try.prog 18 #[.int .u64 (x : Int), .int .i64 k] w (RetInts (but (-1) (upto x k 12)) w) := by
  go_enter Try.func18, Try.ntmps18
  go_wp2_with (go_at_call 20; refine (Others_any _ _ _ _ hx).mono ?_; rintro e w1 ⟨a, c, rfl, hi, hb⟩)
  go_ret
  exact ⟨a, c, rfl, hi, hb⟩
end Go.Proofs.Ytepbnfekicdlpaa
