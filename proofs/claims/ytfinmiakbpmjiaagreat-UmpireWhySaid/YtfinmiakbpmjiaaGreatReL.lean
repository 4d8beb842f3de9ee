/-
  Where all are apart.
-/
import Derived.Test.YtfinmiakbpmjiaaGreatReI
import Derived.BigRegion
import Derived.Deep.RegionWith
import Derived.Test.YtfinmiakbpmjiaaGreatKit
set_option linter.unusedSimpArgs false
set_option linter.unusedVariables false
set_option maxRecDepth 100000
namespace Go.Proofs.YtfinmiakbpmjiaaGreat.Re
open Go Go.RowKit Go.Proofs.YtfinmiakbpmjiaaGreat
def LifeUp (l : List Rv) (h : Int) (x : Lf) : Prop := ∃ A, LifeOf l h A ∧ A.bg = x.bg ∧ A.en = x.en ∧ A.rs = x.rs ∧ ∀ y ∈ A.ws, y ∈ x.ws
def UpAt (l : List Rv) (t : List Int) (x k : Nat) (qs : List Lv) : Prop :=
 qs.length = t.length ∧ ∀ i (h1 : i < qs.length) (h2 : i < t.length), LifeUp l t[i] qs[i].x ∧ qs[i].x.ws.length ≤ l.length + (if i < x then l.length else if i = x then k else 0)
theorem add0 (g n : Nat) : (⟨g, 0, none⟩ : Addr).add n = ⟨g, n, none⟩ := by unfold Addr.add; split <;> simp_all
theorem LivesAt.far {w0 w w' : World} {o : Value} {qs : List Lv} (h : LivesAt w0 o qs w) (hb : Below w.heap.size w w') : LivesAt w0 o qs w' := ⟨h.fill.far hb, fun q hq => ((h.ok q hq).below hb).more hb.size, h.off⟩
theorem UpAt.of_lives {l : List Rv} {t : List Int} {qs : List Lv} (h : LivesUp l t t.length qs) : UpAt l t 0 0 qs := by
 refine ⟨h.1, fun i h1 h2 => ?_⟩
 have h3 := h.2 i h1 h2
 refine ⟨⟨_, h3, rfl, rfl, rfl, fun y hy => hy⟩, ?_⟩
 have := h3.2.1.2
 omega
theorem UpAt.next {l : List Rv} {t : List Int} {x k : Nat} {qs : List Lv} (h : UpAt l t x k qs) : UpAt l t x (k + 1) qs :=
 ⟨h.1, fun i h1 h2 => ⟨(h.2 i h1 h2).1, by have := (h.2 i h1 h2).2; split at this <;> (try split at this) <;> (try split) <;> (try split) <;> omega⟩⟩
theorem UpAt.row {l : List Rv} {t : List Int} {x : Nat} {qs : List Lv} (h : UpAt l t x l.length qs) : UpAt l t (x + 1) 0 qs :=
 ⟨h.1, fun i h1 h2 => ⟨(h.2 i h1 h2).1, by have := (h.2 i h1 h2).2; split at this <;> (try split at this) <;> (try split) <;> (try split) <;> omega⟩⟩
theorem UpAt.put {l : List Rv} {t : List Int} {x k : Nat} {qs : List Lv} (h : UpAt l t x k qs) (hx : x < qs.length) {r : List Int} {κ : Int} {v : Value} (hp : PutOf qs[x].x.ws κ r) : UpAt l t x (k + 1) (qs.set x ⟨{ qs[x].x with ws := r }, qs[x].r, v⟩) := by
 refine ⟨by rw [List.length_set]; exact h.1, fun i h1 h2 => ?_⟩
 rw [List.length_set] at h1
 obtain ⟨g1, g2⟩ := h.2 i h1 h2
 by_cases e : x = i
 ·subst e
  simp only [List.getElem_set_self]
  obtain ⟨A, a1, a2, a3, a4, a5⟩ := g1
  refine ⟨⟨A, a1, a2, a3, a4, fun y hy => (hp.1 y).2 (.inl (a5 y hy))⟩, ?_⟩
  have := hp.2
  simp at g2 ⊢
  omega
 ·simp only [List.getElem_set_ne e]
  refine ⟨g1, ?_⟩
  split at g2 <;> (try split at g2) <;> (try split) <;> (try split) <;> omega
theorem flat_set4 (qs : List Lv) {x : Nat} (hx : x < qs.length) (q : Lv) : (qs.set x q).flatMap Lv.cs = (((((qs.flatMap Lv.cs).set (x * 4) (.int .i64 q.x.bg)).set (x * 4 + 1) (.int .i64 q.x.en)).set (x * 4 + 2) q.r).set (x * 4 + 3) q.s) := by
 induction qs generalizing x with
 | nil => simp at hx
 | cons a qs ih =>
  cases x with
  | zero => simp [Lv.cs]
  | succ x =>
   have h1 := ih (x := x) (by simpa using hx)
   simp only [List.set_cons_succ, List.flatMap_cons, h1]
   have e : (x + 1) * 4 = 4 + x * 4 := by omega
   have hl : a.cs.length = 4 := rfl
   rw [e, List.set_append_right _ _ (by omega), show 4 + x * 4 - a.cs.length = x * 4 by omega, show 4 + x * 4 + 1 = 4 + (x * 4 + 1) by omega, List.set_append_right _ _ (by omega), show 4 + (x * 4 + 1) - a.cs.length = x * 4 + 1 by omega, show 4 + x * 4 + 2 = 4 + (x * 4 + 2) by omega, List.set_append_right _ _ (by omega), show 4 + (x * 4 + 2) - a.cs.length = x * 4 + 2 by omega, show 4 + x * 4 + 3 = 4 + (x * 4 + 3) by omega, List.set_append_right _ _ (by omega), show 4 + (x * 4 + 3) - a.cs.length = x * 4 + 3 by omega]
theorem flat_set3 (qs : List Lv) {x : Nat} (hx : x < qs.length) (r : List Int) (v : Value) : (qs.set x ⟨{ qs[x].x with ws := r }, qs[x].r, v⟩).flatMap Lv.cs = (qs.flatMap Lv.cs).set (x * 4 + 3) v := by
 rw [flat_set4 qs hx]
 have f0 := flat_at Lv.cs 4 (fun _ => rfl) qs x hx 0 (by omega)
 have f1 := flat_at Lv.cs 4 (fun _ => rfl) qs x hx 1 (by omega)
 have f2 := flat_at Lv.cs 4 (fun _ => rfl) qs x hx 2 (by omega)
 have same : ∀ (l : List Value) (i : Nat) (u : Value), l[i]? = some u → l.set i u = l := by
  intro l i u h
  apply List.ext_getElem?
  intro j
  rw [List.getElem?_set]
  split
  ·rename_i e; subst e
   obtain ⟨h1, h2⟩ := List.getElem?_eq_some_iff.1 h
   simp [h1, h2]
  ·rfl
 rw [same _ (x * 4) _ (by simpa [Lv.cs] using f0), same _ (x * 4 + 1) _ (by simpa [Lv.cs] using f1), same _ (x * 4 + 2) _ (by simpa [Lv.cs] using f2)]
theorem LivesAt.store {w0 wr w7 : World} {g cap : Nat} {qs : List Lv} (h : LivesAt w0 (.slice (some ⟨g, 0, none⟩) qs.length cap) qs wr) (hb : Below wr.heap.size wr w7) {x : Nat} (hx : x < qs.length) {r : List Int} {v : Value} (hi : Ints w7 w7.heap.size .i64 v r) (hv : v = qs[x].s ∨ Fresh wr.heap.size v) :
  LivesAt w0 (.slice (some ⟨g, 0, none⟩) (qs.set x ⟨{ qs[x].x with ws := r }, qs[x].r, v⟩).length cap) (qs.set x ⟨{ qs[x].x with ws := r }, qs[x].r, v⟩) (w7.setCell ⟨g, x * 4 + 3, none⟩ v) := by
 have hg : g < wr.heap.size := fill_lt h.fill (by simp [Value.ownBlock])
 have hg0 : w0.heap.size ≤ g := own_base h.fill.1 g (by simp [Value.ownBlock])
 rcases h.fill.1.2 with ⟨e, _⟩ | ⟨g', cap', cur, e, h1, h2, h3, h4, h5, h6⟩
 ·cases e
 cases e
 have hlen := h.fill.1.1
 have h2' : w7.heap[g]? = some (.cells cur 83 (0, 0)) := (hb.block g hg).trans h2
 have hoff : ∀ q ∈ qs.set x ⟨{ qs[x].x with ws := r }, qs[x].r, v⟩, Off (.slice (some ⟨g, 0, none⟩) qs.length cap) q ∧ LvOk w7 w7.heap.size q := by
  intro q hq
  obtain ⟨i, hi'⟩ := List.mem_iff_getElem?.1 hq
  rw [List.getElem?_set] at hi'
  by_cases e : x = i
  ·subst e
   rw [if_pos rfl, if_pos hx] at hi'
   cases hi'
   have hq0 := h.off qs[x] (List.getElem_mem hx)
   have hk0 := h.ok qs[x] (List.getElem_mem hx)
   refine ⟨⟨hq0.1, fun g2 hg2 => ?_⟩, (hk0.1.below hb).more hb.size, hi⟩
   rcases hv with rfl | hv
   ·exact hq0.2 g2 hg2
   ·have := hv g2 hg2
    simp [Value.ownBlock]
    omega
  ·rw [if_neg e] at hi'
   have hm := List.mem_of_getElem? hi'
   exact ⟨h.off q hm, (((h.ok q hm).below hb).more hb.size)⟩
 refine ⟨⟨⟨?_, .inr ⟨g, cap, cur.setIfInBounds (x * 4 + 3) v, rfl, h1, blk_put h2' _ _ rfl, by rw [List.length_set]; exact h3, h4, by simpa using h5, ?_⟩⟩, ?_⟩, fun q hq => ?_, fun q hq => ?_⟩
 ·rw [flat_set3 qs hx, List.length_set, List.length_set]; exact hlen
 ·rw [flat_set3 qs hx, List.length_set, ← h6]
  simp [List.take_set]
 ·exact (below_then h.fill.2 hb).setCell hg0 v
 ·obtain ⟨k1, k2, k3⟩ := hoff q hq
  have hk : ∀ p : Addr, p.block < w7.heap.size → (Value.slice (some ⟨g, 0, none⟩) qs.length cap).ownBlock ≠ some p.block → (w7.setCell ⟨g, x * 4 + 3, none⟩ v).cell? p = w7.cell? p := by
   intro p _ hne
   refine World.cell?_setCell_other w7 _ p v (fun e => hne ?_)
   subst e
   rfl
  exact ⟨k2.far k1.1 hk (by simp), k3.far k1.2 hk (by simp)⟩
 ·obtain ⟨k1, _⟩ := hoff q hq
  rw [List.length_set]
  exact k1
def NoC (qs : List Lv) (a b : Nat) : Prop := ∀ x y (hx : x < qs.length) (hy : y < qs.length), (x < a ∨ x = a ∧ y < b) → x ≠ y → metB qs[x].x qs[y].x = true → comB qs[x].x.rs qs[y].x.ws = false
theorem NoC.y {qs : List Lv} {a b : Nat} (h : NoC qs a b) (hn : ∀ (hx : a < qs.length) (hy : b < qs.length), a ≠ b → metB qs[a].x qs[b].x = true → comB qs[a].x.rs qs[b].x.ws = false) : NoC qs a (b + 1) := by
 intro x y hx hy h1
 by_cases e : x = a ∧ y = b
 ·obtain ⟨rfl, rfl⟩ := e; exact hn hx hy
 ·exact h x y hx hy (by omega)
theorem NoC.x {qs : List Lv} {a : Nat} (h : NoC qs a qs.length) : NoC qs (a + 1) 0 := fun x y hx hy h1 => h x y hx hy (by omega)
theorem apart_found {l : List Rv} {t : List Int} {qs : List Lv} (ht : TicketsOf l t) (hu : UpAt l t t.length 0 qs) (hn : NoC qs t.length 0) : ApartOf l := by
 rintro x y ⟨e1, h1, h2, rfl⟩ ⟨e2, h3, h4, rfl⟩ hne
 obtain ⟨i, hi⟩ := List.mem_iff_getElem?.1 (ht.1 e1 h1 h2)
 obtain ⟨j, hj⟩ := List.mem_iff_getElem?.1 (ht.1 e2 h3 h4)
 obtain ⟨i1, i2⟩ := List.getElem?_eq_some_iff.1 hi
 obtain ⟨j1, j2⟩ := List.getElem?_eq_some_iff.1 hj
 have hij : i ≠ j := fun e => hne (by subst e; rw [← i2, ← j2])
 have hli : i < qs.length := by rw [hu.1]; exact i1
 have hlj : j < qs.length := by rw [hu.1]; exact j1
 obtain ⟨A, a1, a2, a3, a4, a5⟩ := (hu.2 i hli i1).1
 obtain ⟨D, d1, d2, d3, d4, d5⟩ := (hu.2 j hlj j1).1
 rw [i2] at a1
 rw [j2] at d1
 refine ⟨A, D, a1, d1, ?_⟩
 unfold cnfB
 cases hm : metB A D with
 | false => rfl
 | true =>
  have hm2 : metB qs[i].x qs[j].x = true := by rw [← hm]; unfold metB; rw [a2, a3, d2, d3]
  have hc := hn i j hli hlj (by omega) hij hm2
  rw [Bool.true_and, Bool.eq_false_iff]
  intro h5
  obtain ⟨z, z1, z2⟩ := (comB_iff _ _).1 h5
  have := (comB_iff _ _).2 ⟨z, a4 ▸ z1, d5 z z2⟩
  rw [this] at hc
  cases hc
set_option maxHeartbeats 8000000 in
theorem Apart_any {v : Value} {l : List Rv} {w : World} (hv : Evs w w.heap.size v l) (hh : ∀ x ∈ l, x.h < 18446744073709551616) (h9 : l.length < 9000) :
  Calls Tryz.prog 9 #[v] w fun e w' => ∃ b, e = .returned (.bool b) ∧ (b = true → ApartOf l) ∧ Below w.heap.size w w' := by
 have HV := Lib.hid hv
 have hTk := Tickets_any hv hh
 obtain ⟨A, c, rfl, hc, hl, hr⟩ := hv
 have HRd := Lib.hid hr
 clear hr hh
 go_enter Tryz.func9, Tryz.ntmps9
 go_wp2_with fail
 refine hTk.mono ?_
 rintro e w2 ⟨v2, t, rfl, hi2, ht2, hb2⟩
 have HT2 := Lib.hid ht2
 have HI2 := Lib.hid hi2
 have HB2 := Lib.hid hb2
 have htl : t.length ≤ l.length := ht2.2
 have hLv := Lives_own ((HV.out.below hb2).more hb2.size) hi2 (by omega)
 have HLv := Lib.hid hLv
 obtain ⟨A2, n2, rfl, _, _, hr2, _⟩ := hi2
 have HR2 := Lib.hid hr2
 clear hTk hb2 hLv ht2 hr2
 go_wp2_with fail
 refine HLv.out.mono ?_
 rintro e w3 ⟨v3, qs0, rfl, hat, hu3⟩
 have HU0 := Lib.hid (UpAt.of_lives hu3)
 have HA0 := Lib.hid hat
 clear hat hu3
 go_wp2_with fail
 go_loopw [5] (fun i wr => ∃ (x : Nat) (qs : List Lv), x ≤ t.length ∧ i = .int .i64 x ∧ Hid (UpAt l t x 0 qs) ∧ Hid (LivesAt w2 v3 qs wr)) (fun i _ => t.length - (intOf i).toNat)
 case atStart => exact ⟨0, qs0, Nat.zero_le _, rfl, HU0, HA0⟩
 case round =>
  obtain ⟨x, qs, hx, rfl, hUp, hAt⟩ := hrel
  by_cases hxl : x < t.length
  ·go_wp2_with fail
   go_loopw [6] (fun i wr => ∃ (k : Nat) (qs : List Lv), k ≤ l.length ∧ i = .int .i64 k ∧ Hid (UpAt l t x k qs) ∧ Hid (LivesAt w2 v3 qs wr)) (fun i _ => l.length - (intOf i).toNat)
   case atStart => exact ⟨0, qs, Nat.zero_le _, rfl, hUp, hAt⟩
   case round =>
    obtain ⟨k, qs, hk, rfl, hUp, hAt⟩ := hrel
    by_cases hkl : k < l.length
    ·obtain ⟨ad, e0, hbl, c0, c1, c2, c3, c4, c5, c6, c7, c8, c9⟩ := ev_at (HRd.out.below (below_then HB2.out hAt.out.fill.2)) hkl
     subst e0
     obtain ⟨ad2, u, e2, _, hu, hcl⟩ := (HR2.out.below hAt.out.fill.2).at_ hxl
     have hu' : u = .int .u64 t[x] := by
      rw [List.getElem?_map, List.getElem?_eq_getElem hxl] at hu
      simpa using hu.symm
     subst hu'
     subst e2
     clear hu
     have hqn : qs.length = t.length := hUp.out.1
     obtain ⟨ad4, cap, hA4, e3⟩ : ∃ (ad4 : Addr) (cap : Nat), Hid (∃ g, ad4 = ⟨g, 0, none⟩) ∧ v3 = .slice (some ad4) qs.length cap := by
      rcases hAt.out.fill.1.2 with ⟨_, h0⟩ | ⟨g, cap, cur, e, _⟩
      ·omega
      ·exact ⟨⟨g, 0, none⟩, cap, Lib.hid ⟨g, rfl⟩, e⟩
     subst e3
     have HQN := Lib.hid hqn
     have hxq : x < qs.length := by rw [hqn]; exact hxl
     clear hqn
     have c2' : wr.cell? ⟨(ad.add (k * 10)).block, (ad.add (k * 10)).off + 1 + 1, none⟩ = some (.int .u64 l[k].h) := c2
     have c1' : wr.cell? ⟨(ad.add (k * 10)).block, (ad.add (k * 10)).off + 1 + 0, none⟩ = some (.int .i64 l[k].kd) := c1
     have r0 := cell_regrown c1
     have r1 := cell_regrown c2
     have r2 := cell_regrown c2'
     have r3 := cell_regrown c7
     have r4 := cell_regrown c9
     have r5 := cell_regrown c4
     have r6 := cell_regrown hcl
     clear c0 c3 c5 c6 c8 hbl
     go_wp2_with fail
     rcases Bool.eq_false_or_eq_true (l[k].kd == 3) with t1 | t1
     ·rcases Bool.eq_false_or_eq_true (l[k].h == t[x]) with t2 | t2
      ·rcases Bool.eq_false_or_eq_true (l[k].bg != 0) with t3 | t3
       ·rcases Bool.eq_false_or_eq_true (l[k].dn) with t4 | t4
        ·rcases Bool.eq_false_or_eq_true (l[k].e == 8) with t5 | t5
         ·refine wp_region_quiet_below (by kernel_rfl) (by kernel_rfl) ?_
          repeat (go_big_quiet_step (fail))
          refine wpQuiet_nil ?_
          rintro w5 ⟨r5, rfl⟩
          have HB5 := Lib.hid (below_regrown wr r5.d r5.os)
          generalize Go.Sort.grow (redrawn wr r5.d) r5.os = w5 at *
          go_wp2_with fail
          have hlv := LvsV.of_at (hAt.out.far HB5.out) (by rw [HQN.out]; omega)
          obtain ⟨A4, n4, e4, _, _, hr4, _⟩ := hlv
          cases e4
          obtain ⟨ad5, e4, _, q0, q1, q2, q3⟩ := lv_at hr4 (k := x) hxq
          cases e4
          obtain ⟨ad', e', _, d0, d1, d2, d3, d4, d5, d6, d7, d8, d9⟩ := ev_at (HRd.out.below (below_then HB2.out (below_then hAt.out.fill.2 HB5.out))) hkl
          cases e'
          have d3' : w5.cell? ⟨(ad.add (k * 10)).block, (ad.add (k * 10)).off + 1 + 2, none⟩ = some (.int .i64 l[k].k) := d3
          have r0 := cell_regrown q3
          have r1 := cell_regrown d3
          have r2 := cell_regrown d3'
          have hsi := ((hAt.out.ok qs[x] (List.getElem_mem hxq)).2.below HB5.out).more HB5.out.size
          have hwl := (hUp.out.2 x hxq hxl).2
          have hwl2 : qs[x].x.ws.length < 999999 := by split at hwl <;> (try split at hwl) <;> omega
          have HPt : Hid (∀ (W : World), Below w5.heap.size w5 W → Calls Tryz.prog 24 #[qs[x].s, .int .i64 l[k].k] W fun e w' => ∃ v' r, e = .returned v' ∧ Hid (Ints w' w'.heap.size .i64 v' r ∧ PutOf qs[x].x.ws l[k].k r ∧ Below w5.heap.size w5 w' ∧ (v' = qs[x].s ∨ Fresh w5.heap.size v'))) := Lib.hid fun W hb => (Put_any l[k].k ((hsi.below hb).more hb.size) hwl2).mono (by
           rintro e w' ⟨v', r, rfl, h1, h2, h3, h4⟩
           exact ⟨v', r, rfl, Lib.hid ⟨h1, h2, below_then hb h3, h4.imp id fun h => h.less hb.size⟩⟩)
          have hz4 : w5.frozen? ⟨(ad4.add (x * 4)).block, (ad4.add (x * 4)).off + 3, none⟩ = false := by
           have h5 := hAt.out.far HB5.out
           obtain ⟨g, rfl⟩ := hA4.out
           rcases h5.fill.1.2 with ⟨e, _⟩ | ⟨g', cap', cur, e, _, h2, _⟩
           ·cases e
           ·cases e
            have h6 : w5.heap[((⟨g, 0, none⟩ : Addr).add (x * 4)).block]? = some (.cells cur 83 (0, 0)) := by rw [block_of_add]; exact h2
            exact blk_frozen h6 _
          have hlt4 : (ad4.add (x * 4)).block < w5.heap.size := by
           obtain ⟨g, rfl⟩ := hA4.out
           rw [block_of_add]
           exact fill_lt (hAt.out.far HB5.out).fill (by simp [Value.ownBlock])
          go_region_with (go_at_call 24; refine (HPt.out _ (below_drew (Below.refl _ _))).mono ?_; rintro e w6 ⟨v6, r6, rfl, hP6⟩; obtain ⟨A6, c6, e6, _, _, _, _⟩ := hP6.out.1; subst e6; have f1 := (hP6.out.2.2.1.cell (p := ⟨(ad4.add (x * 4)).block, (ad4.add (x * 4)).off + 3, none⟩) hlt4).trans q3; have f2 := (hP6.out.2.2.1.frozen (p := ⟨(ad4.add (x * 4)).block, (ad4.add (x * 4)).off + 3, none⟩) hlt4).trans hz4)
          all_goals
           go_wp2_with fail
           go_roundw
           case rel =>
            refine ⟨k + 1, qs.set x ⟨{ qs[x].x with ws := r6 }, qs[x].r, .slice A6 r6.length c6⟩, by omega, by go_num, Lib.hid (hUp.out.put hxq hP6.out.2.1), Lib.hid ?_⟩
            obtain ⟨g, hg⟩ := hA4.out
            subst hg
            have hS := (hAt.out.far HB5.out).store hP6.out.2.2.1 (x := x) hxq hP6.out.1 hP6.out.2.2.2
            rw [List.length_set] at hS
            rw [add0]
            exact hS
           case measure => simp [intOf] <;> omega
         ·refine wp_region_quiet_below (by kernel_rfl) (by kernel_rfl) ?_
          repeat (go_big_quiet_step (fail))
          refine wpQuiet_nil ?_
          rintro w5 ⟨r5, rfl⟩
          have HB5 := Lib.hid (below_regrown wr r5.d r5.os)
          generalize Go.Sort.grow (redrawn wr r5.d) r5.os = w5 at *
          go_wp2_with fail
          go_roundw
          case rel => exact ⟨k + 1, qs, by omega, by go_num, Lib.hid hUp.out.next, Lib.hid (hAt.out.far HB5.out)⟩
          case measure => simp [intOf] <;> omega
        ·refine wp_region_quiet_below (by kernel_rfl) (by kernel_rfl) ?_
         repeat (go_big_quiet_step (fail))
         refine wpQuiet_nil ?_
         rintro w5 ⟨r5, rfl⟩
         have HB5 := Lib.hid (below_regrown wr r5.d r5.os)
         generalize Go.Sort.grow (redrawn wr r5.d) r5.os = w5 at *
         go_wp2_with fail
         go_roundw
         case rel => exact ⟨k + 1, qs, by omega, by go_num, Lib.hid hUp.out.next, Lib.hid (hAt.out.far HB5.out)⟩
         case measure => simp [intOf] <;> omega
       ·refine wp_region_quiet_below (by kernel_rfl) (by kernel_rfl) ?_
        repeat (go_big_quiet_step (fail))
        refine wpQuiet_nil ?_
        rintro w5 ⟨r5, rfl⟩
        have HB5 := Lib.hid (below_regrown wr r5.d r5.os)
        generalize Go.Sort.grow (redrawn wr r5.d) r5.os = w5 at *
        go_wp2_with fail
        go_roundw
        case rel => exact ⟨k + 1, qs, by omega, by go_num, Lib.hid hUp.out.next, Lib.hid (hAt.out.far HB5.out)⟩
        case measure => simp [intOf] <;> omega
      ·refine wp_region_quiet_below (by kernel_rfl) (by kernel_rfl) ?_
       repeat (go_big_quiet_step (fail))
       refine wpQuiet_nil ?_
       rintro w5 ⟨r5, rfl⟩
       have HB5 := Lib.hid (below_regrown wr r5.d r5.os)
       generalize Go.Sort.grow (redrawn wr r5.d) r5.os = w5 at *
       go_wp2_with fail
       go_roundw
       case rel => exact ⟨k + 1, qs, by omega, by go_num, Lib.hid hUp.out.next, Lib.hid (hAt.out.far HB5.out)⟩
       case measure => simp [intOf] <;> omega
     ·refine wp_region_quiet_below (by kernel_rfl) (by kernel_rfl) ?_
      repeat (go_big_quiet_step (fail))
      refine wpQuiet_nil ?_
      rintro w5 ⟨r5, rfl⟩
      have HB5 := Lib.hid (below_regrown wr r5.d r5.os)
      generalize Go.Sort.grow (redrawn wr r5.d) r5.os = w5 at *
      go_wp2_with fail
      go_roundw
      case rel => exact ⟨k + 1, qs, by omega, by go_num, Lib.hid hUp.out.next, Lib.hid (hAt.out.far HB5.out)⟩
      case measure => simp [intOf] <;> omega
    ·have hkt : k = l.length := by omega
     have HKT := Lib.hid hkt
     clear hkt
     go_wp2_with fail
     go_roundw
     case rel => exact ⟨x + 1, qs, by omega, by go_num, Lib.hid (UpAt.row (HKT.out ▸ hUp.out)), hAt⟩
     case measure => simp [intOf] <;> omega
  ·have hxt : x = t.length := by omega
   have HU8 := Lib.hid (hxt ▸ hUp.out)
   have hqn : qs.length = t.length := hUp.out.1
   obtain ⟨A4, cap, e3⟩ : ∃ A4 cap, v3 = .slice A4 qs.length cap := by
    rcases hAt.out.fill.1.2 with ⟨e, h0⟩ | ⟨g, cap, cur, e, _⟩
    ·exact ⟨none, 0, by rw [h0]; exact e⟩
    ·exact ⟨_, cap, e⟩
   subst e3
   have HQN := Lib.hid hqn
   have HXT := Lib.hid hxt
   clear hxt hqn
   have HA8 := Lib.hid (LvsV.of_at hAt.out (by rw [HQN.out]; omega))
   have HA8k : Hid (∀ q ∈ qs, LvOk wr wr.heap.size q) := Lib.hid hAt.out.ok
   have HB8 := Lib.hid (below_then HB2.out hAt.out.fill.2)
   obtain ⟨wr₀, hwr⟩ : ∃ W : World, W = wr := ⟨wr, rfl⟩
   subst hwr
   go_wp2_with fail
   go_loopw [7] (fun i wr2 => ∃ x : Nat, x ≤ t.length ∧ i = .int .i64 x ∧ Hid (NoC qs x 0) ∧ Hid (Below wr₀.heap.size wr₀ wr2)) (fun i _ => t.length - (intOf i).toNat)
   case atStart => exact ⟨0, Nat.zero_le _, rfl, Lib.hid (fun x y _ _ h => by omega), Lib.hid (Below.refl _ _)⟩
   case round =>
    obtain ⟨x, hx, rfl, hNo, hBr⟩ := hrel
    by_cases hxl : x < t.length
    ·go_wp2_with fail
     go_loopw [8] (fun i wr2 => ∃ y : Nat, y ≤ t.length ∧ i = .int .i64 y ∧ Hid (NoC qs x y) ∧ Hid (Below wr₀.heap.size wr₀ wr2)) (fun i _ => t.length - (intOf i).toNat)
     case atStart => exact ⟨0, Nat.zero_le _, rfl, hNo, hBr⟩
     case round =>
      obtain ⟨y, hy, rfl, hNo, hBr⟩ := hrel
      by_cases hyl : y < t.length
      ·have hxq : x < qs.length := by rw [HQN.out]; exact hxl
       have hyq : y < qs.length := by rw [HQN.out]; exact hyl
       by_cases hxy : x = y
       ·subst hxy
        go_wp2_with fail
        refine wp_region_quiet_below (by kernel_rfl) (by kernel_rfl) ?_
        repeat (go_big_quiet_step (fail))
        refine wpQuiet_nil ?_
        rintro w9 ⟨r9, rfl⟩
        have HB9 := Lib.hid (below_then hBr.out (below_regrown wr r9.d r9.os))
        generalize Go.Sort.grow (redrawn wr r9.d) r9.os = w9 at *
        go_wp2_with fail
        go_roundw
        case rel => exact ⟨x + 1, by omega, by go_num, Lib.hid (hNo.out.y (fun _ _ h => (h rfl).elim)), HB9⟩
        case measure => simp [intOf] <;> omega
       ·have g1 : ((x : Int) != (y : Int)) = true := by simp; omega
        obtain ⟨A4', n4', e4, _, _, hr4, hok4⟩ := HA8.out.below hBr.out
        cases e4
        obtain ⟨ad4, e4, _, x0, x1, x2, x3⟩ := lv_at hr4 hxq
        obtain ⟨ad5, e5, _, y0, y1, y2, y3⟩ := lv_at hr4 hyq
        subst e4
        cases e5
        have r0 := cell_regrown x0
        have r1 := cell_regrown x1
        have r2 := cell_regrown x2
        have r3 := cell_regrown x3
        have r4 := cell_regrown y0
        have r5 := cell_regrown y1
        have r6 := cell_regrown y2
        have r7 := cell_regrown y3
        have hkx : ∀ d os, LvOk (Go.Sort.grow (redrawn wr d) os) (Go.Sort.grow (redrawn wr d) os).heap.size qs[x] := fun d os => by
         have hb := below_then hBr.out (below_regrown wr d os)
         exact ((HA8k.out _ (List.getElem_mem hxq)).below hb).more hb.size
        have hky : ∀ d os, LvOk (Go.Sort.grow (redrawn wr d) os) (Go.Sort.grow (redrawn wr d) os).heap.size qs[y] := fun d os => by
         have hb := below_then hBr.out (below_regrown wr d os)
         exact ((HA8k.out _ (List.getElem_mem hyq)).below hb).more hb.size
        have HM : Hid (∀ (d : Nat) (os : Array Obj), _) := Lib.hid fun d os => Meet_any (lv_life (hkx d os)) (lv_life (hky d os))
        have HC1 : Hid (∀ (d : Nat) (os : Array Obj), Calls Tryz.prog 26 #[qs[x].s, qs[y].s] (Go.Sort.grow (redrawn wr d) os) fun e w' => e = .returned (.bool (comB qs[x].x.ws qs[y].x.ws)) ∧ Below (Go.Sort.grow (redrawn wr d) os).heap.size (Go.Sort.grow (redrawn wr d) os) w') := Lib.hid fun d os => (common_any (hkx d os).2 (hky d os).2).mono (by rintro e w' ⟨rfl, rfl⟩; exact ⟨rfl, Below.refl _ _⟩)
        have HC2 : Hid (∀ (d : Nat) (os : Array Obj), Calls Tryz.prog 26 #[qs[x].r, qs[y].s] (Go.Sort.grow (redrawn wr d) os) fun e w' => e = .returned (.bool (comB qs[x].x.rs qs[y].x.ws)) ∧ Below (Go.Sort.grow (redrawn wr d) os).heap.size (Go.Sort.grow (redrawn wr d) os) w') := Lib.hid fun d os => (common_any (hkx d os).1 (hky d os).2).mono (by rintro e w' ⟨rfl, rfl⟩; exact ⟨rfl, Below.refl _ _⟩)
        clear hkx hky
        generalize hm : metB qs[x].x qs[y].x = m at *
        generalize hc1 : comB qs[x].x.ws qs[y].x.ws = b1 at *
        generalize hc2 : comB qs[x].x.rs qs[y].x.ws = b2 at *
        have HM1 := Lib.hid hm
        have HE2 := Lib.hid hc2
        clear hm hc1 hc2
        go_wp2_with fail
        cases m
        ·refine wp_region_quiet_below (by kernel_rfl) (by kernel_rfl) ?_
         repeat (go_big_quiet_step (first | (go_at_call 25; with_reducible exact quiet_call (HM.out _ _)) | (go_at_call 26; first | (with_reducible exact quiet_call (HC1.out _ _)) | (with_reducible exact quiet_call (HC2.out _ _)))))
         refine wpQuiet_nil ?_
         rintro w9 ⟨r9, rfl⟩
         have HB9 := Lib.hid (below_then hBr.out (below_regrown wr r9.d r9.os))
         generalize Go.Sort.grow (redrawn wr r9.d) r9.os = w9 at *
         go_wp2_with fail
         go_roundw
         case rel => exact ⟨y + 1, by omega, by go_num, Lib.hid (hNo.out.y (fun _ _ _ h => by rw [HM1.out] at h; cases h)), HB9⟩
         case measure => simp [intOf] <;> omega
        ·cases b1
         ·cases b2
          ·refine wp_region_quiet_below (by kernel_rfl) (by kernel_rfl) ?_
           repeat (go_big_quiet_step (first | (go_at_call 25; with_reducible exact quiet_call (HM.out _ _)) | (go_at_call 26; first | (with_reducible exact quiet_call (HC1.out _ _)) | (with_reducible exact quiet_call (HC2.out _ _)))))
           refine wpQuiet_nil ?_
           rintro w9 ⟨r9, rfl⟩
           have HB9 := Lib.hid (below_then hBr.out (below_regrown wr r9.d r9.os))
           generalize Go.Sort.grow (redrawn wr r9.d) r9.os = w9 at *
           go_wp2_with fail
           go_roundw
           case rel => exact ⟨y + 1, by omega, by go_num, Lib.hid (hNo.out.y (fun _ _ _ _ => HE2.out)), HB9⟩
           case measure => simp [intOf] <;> omega
          ·refine wp_region_quiet_below (by kernel_rfl) (by kernel_rfl) ?_
           repeat (go_big_quiet_step (first | (go_at_call 25; with_reducible exact quiet_call (HM.out _ _)) | (go_at_call 26; first | (with_reducible exact quiet_call (HC1.out _ _)) | (with_reducible exact quiet_call (HC2.out _ _)))))
           refine wpQuiet_nil ?_
           rintro w9 ⟨r9, rfl⟩
           have HB9 := Lib.hid (below_then hBr.out (below_regrown wr r9.d r9.os))
           generalize Go.Sort.grow (redrawn wr r9.d) r9.os = w9 at *
           go_wp2_with fail
           go_ret
           exact ⟨false, rfl, fun e => (by cases e), below_then HB8.out HB9.out⟩
         ·refine wp_region_quiet_below (by kernel_rfl) (by kernel_rfl) ?_
          repeat (go_big_quiet_step (first | (go_at_call 25; with_reducible exact quiet_call (HM.out _ _)) | (go_at_call 26; first | (with_reducible exact quiet_call (HC1.out _ _)) | (with_reducible exact quiet_call (HC2.out _ _)))))
          refine wpQuiet_nil ?_
          rintro w9 ⟨r9, rfl⟩
          have HB9 := Lib.hid (below_then hBr.out (below_regrown wr r9.d r9.os))
          generalize Go.Sort.grow (redrawn wr r9.d) r9.os = w9 at *
          go_wp2_with fail
          go_ret
          exact ⟨false, rfl, fun e => (by cases e), below_then HB8.out HB9.out⟩
      ·have hyt : y = t.length := by omega
       have HYT := Lib.hid hyt
       clear hyt
       go_wp2_with fail
       go_roundw
       case rel => exact ⟨x + 1, by omega, by go_num, Lib.hid (NoC.x (by have := hNo.out; rw [HYT.out, ← HQN.out] at this; exact this)), hBr⟩
       case measure => simp [intOf] <;> omega
    ·have hxt : x = t.length := by omega
     have HXT2 := Lib.hid hxt
     clear hxt
     go_wp2_with fail
     go_ret
     exact ⟨true, rfl, fun _ => apart_found HT2.out HU8.out (HXT2.out ▸ hNo.out), below_then HB8.out hBr.out⟩
end Go.Proofs.YtfinmiakbpmjiaaGreat.Re
