/-
  A failed one has a triple.
-/
import Derived.Test.YtfinmiakbpmjiaaGreatReA
import Derived.BigRegion
import Derived.Laws.ResultCell
set_option linter.unusedSimpArgs false
set_option linter.unusedVariables false
set_option maxRecDepth 100000
namespace Go.Proofs.YtfinmiakbpmjiaaGreat.Re
open Go Go.RowKit Go.Proofs.YtfinmiakbpmjiaaGreat
theorem lv_at {w : World} {B : Nat} {A : Option Addr} {qs : List Lv} (h : Reads w B 4 A qs.length (qs.flatMap Lv.cs)) {k : Nat} (hk : k < qs.length) :
  ∃ ad, A = some ad ∧ ad.block < B ∧ w.cell? (ad.add (k * 4)) = some (.int .i64 qs[k].x.bg) ∧ w.cell? ⟨(ad.add (k * 4)).block, (ad.add (k * 4)).off + 1, none⟩ = some (.int .i64 qs[k].x.en) ∧ w.cell? ⟨(ad.add (k * 4)).block, (ad.add (k * 4)).off + 2, none⟩ = some qs[k].r ∧ w.cell? ⟨(ad.add (k * 4)).block, (ad.add (k * 4)).off + 3, none⟩ = some qs[k].s := by
 obtain ⟨ad, e, hb, hc⟩ := h.2 (by omega)
 have hf : ∀ j u, j < 4 → (qs[k].cs)[j]? = some u → w.cell? (ad.add (k * 4 + j)) = some u := fun j u hj hu => hc _ _ (by rw [flat_at Lv.cs 4 (fun _ => rfl) qs k hk j hj]; exact hu)
 exact ⟨ad, e, hb, hf 0 _ (by omega) rfl, by rw [← add_field _ _ 1 (by omega)]; exact hf 1 _ (by omega) rfl, by rw [← add_field _ _ 2 (by omega)]; exact hf 2 _ (by omega) rfl, by rw [← add_field _ _ 3 (by omega)]; exact hf 3 _ (by omega) rfl⟩
theorem lv_life {w : World} {B : Nat} {q : Lv} (h : LvOk w B q) : LifeV w B (.agg #[.int .i64 q.x.bg, .int .i64 q.x.en, q.r, q.s]) q.x := ⟨q.r, q.s, rfl, h.1, h.2⟩
def trB (t : List Int) (qs : List Lv) (h : Int) (x p y : Nat) : Bool :=
 p != x && (p != y && ((t.getD x 0 == h || (t.getD p 0 == h || t.getD y 0 == h)) && (match qs[x]?, qs[p]?, qs[y]? with
  | some a, some b, some d => cnfB a.x b.x && cnfB b.x d.x
  | _, _, _ => false)))
theorem tik_at {l : List Rv} {t : List Int} (h : TicketsOf l t) {x : Int} (hx : TikIn l x) : ∃ i, i < t.length ∧ t[i]? = some x := by
 obtain ⟨e, h1, h2, rfl⟩ := hx
 obtain ⟨i, hi⟩ := List.mem_iff_getElem?.1 (h.1 e h1 h2)
 exact ⟨i, (List.getElem?_eq_some_iff.1 hi).1, hi⟩
theorem trip_found {l : List Rv} {t : List Int} {qs : List Lv} {h : Int} (ht : TicketsOf l t) (hq : LivesUp l t t.length qs) (hT : TripOf l h) : ∃ x p y, x < t.length ∧ p < t.length ∧ y < t.length ∧ trB t qs h x p y = true := by
 obtain ⟨x, p, y, h1, h2, h3, h4, h5, h6, h7⟩ := hT
 obtain ⟨i, i1, i2⟩ := tik_at ht h1
 obtain ⟨j, j1, j2⟩ := tik_at ht h2
 obtain ⟨k, k1, k2⟩ := tik_at ht h3
 have at_ : ∀ {a : Nat} {v : Int} (ha : a < t.length), t[a]? = some v → ∃ q, qs[a]? = some q ∧ LifeOf l v q.x := by
  intro a v ha hv
  have hl : a < qs.length := by rw [hq.1]; exact ha
  have h8 := hq.2 a hl ha
  obtain ⟨_, e⟩ := List.getElem?_eq_some_iff.1 hv
  rw [e] at h8
  exact ⟨_, List.getElem?_eq_getElem hl, h8⟩
 obtain ⟨qa, a1, a2⟩ := at_ i1 i2
 obtain ⟨qb, b1, b2⟩ := at_ j1 j2
 obtain ⟨qc, c1, c2⟩ := at_ k1 k2
 obtain ⟨g1, g2⟩ := h7 _ _ _ a2 b2 c2
 refine ⟨i, j, k, i1, j1, k1, ?_⟩
 have n1 : j ≠ i := fun e => h4 (by rw [e, i2] at j2; exact (Option.some.inj j2).symm)
 have n2 : j ≠ k := fun e => h5 (by rw [e, k2] at j2; exact (Option.some.inj j2).symm)
 unfold trB
 simp only [a1, b1, c1, g1, g2, List.getD_eq_getElem?_getD, i2, j2, k2, Option.getD_some, Bool.and_true, Bool.and_eq_true, bne_iff_ne, ne_eq, Bool.or_eq_true, beq_iff_eq]
 exact ⟨n1, n2, h6⟩
def NoT (t : List Int) (qs : List Lv) (h : Int) (a b d : Nat) : Prop := ∀ x p y, x < t.length → p < t.length → y < t.length → (x < a ∨ x = a ∧ (p < b ∨ p = b ∧ y < d)) → trB t qs h x p y = false
theorem results_row_tmp {P : Program} {fn : Func} {p u : Tmp} {ty : TypeId} (h : fn.results = #[.cell p ty, .tmp u]) (tmps : Array Value) (w : World) (g : Nat) (t : TypeId) (cs : Array Value) (fr : Nat × Nat) (d : TypeDesc)
  (hp : tmps.getD p undef = .pointer (some ⟨g, 0, none⟩)) (hg : w.heap[g]? = some (.cells cs t fr))
  (hu : P.underlying ty = some d) (hd : (match d with | .struct _ | .array _ _ => true | _ => false) = true) (hi : (P.info? ty).map (·.size) = some cs.size) :
  (results fn tmps).run P w = .ok (.tuple #[.agg cs, tmps.getD u undef]) w := by
 rw [results_cell_tmp h, hp]
 show ((loadVar ty ⟨g, 0, none⟩).run P w).andThen _ = _
 rw [run_loadVar_row w g t ty cs fr d hg hu hd hi]
 rfl
theorem NoT.y {t : List Int} {qs : List Lv} {h : Int} {x p y : Nat} (f : NoT t qs h x p y) (hn : trB t qs h x p y = false) : NoT t qs h x p (y + 1) := by
 intro a b d h1 h2 h3 h4
 by_cases e : a = x ∧ b = p ∧ d = y
 ·obtain ⟨rfl, rfl, rfl⟩ := e; exact hn
 ·exact f a b d h1 h2 h3 (by omega)
theorem NoT.p {t : List Int} {qs : List Lv} {h : Int} {x p : Nat} (f : NoT t qs h x p t.length) : NoT t qs h x (p + 1) 0 :=
 fun a b d h1 h2 h3 h4 => f a b d h1 h2 h3 (by omega)
theorem NoT.x {t : List Int} {qs : List Lv} {h : Int} {x : Nat} (f : NoT t qs h x t.length 0) : NoT t qs h (x + 1) 0 0 :=
 fun a b d h1 h2 h3 h4 => f a b d h1 h2 h3 (by omega)
theorem trB_o {t : List Int} {qs : List Lv} {h : Int} {x p y : Nat} (hx : x < t.length) (hp : p < t.length) (hy : y < t.length) (h1 : (t[x] == h) = false) (h2 : (t[p] == h) = false) (h3 : (t[y] == h) = false) : trB t qs h x p y = false := by
 unfold trB
 simp [List.getD_eq_getElem?_getD, hx, hp, hy, h1, h2, h3] at *
 try simp [h1, h2, h3]
theorem trB_c {t : List Int} {qs : List Lv} {h : Int} {x p y : Nat} (hx : x < qs.length) (hp : p < qs.length) (hy : y < qs.length) (h1 : cnfB qs[x].x qs[p].x = false ∨ cnfB qs[p].x qs[y].x = false) : trB t qs h x p y = false := by
 unfold trB
 simp only [List.getElem?_eq_getElem hx, List.getElem?_eq_getElem hp, List.getElem?_eq_getElem hy]
 rcases h1 with h1 | h1 <;> simp [h1]
set_option maxHeartbeats 8000000 in
theorem Fail_yes {v : Value} {l : List Rv} {w : World} (hv : Evs w w.heap.size v l) (hh : ∀ x ∈ l, x.h < 18446744073709551616) {k : Nat} (hk : k < l.length) (h9 : l.length < 9000) (hd : l[k].dn = true) (he : l[k].e = 7) (hT : TripOf (l.filter (untB l[k].en)) l[k].h) :
  Calls Tryz.prog 10 #[v, .int .i64 (k : Int)] w fun e w' => ∃ a b c : Int, e = .returned (.tuple #[.agg #[.int .u64 a, .int .u64 b, .int .u64 c], .bool true]) ∧ Below w.heap.size w w' := by
 have HH := Lib.hid hh
 have HT := Lib.hid hT
 clear hh hT
 have hb0 := below_alloc (Below.refl w.heap.size w) (.cells #[.int .u64 0, .int .u64 0, .int .u64 0] 45)
 have hU := Until_any l[k].en ((hv.below hb0).more hb0.size)
 have hres := blk_new w (.cells #[.int .u64 0, .int .u64 0, .int .u64 0] 45)
 obtain ⟨A, c, rfl, hc, hl, hr⟩ := hv
 obtain ⟨ad, rfl, hbl, c0, c1, c2, c3, c4, c5, c6, c7, c8, c9⟩ := ev_at (hr.below hb0) hk
 rw [hd] at c9
 rw [he] at c4
 have HRd := Lib.hid (hr.below hb0)
 clear hr
 go_enter Tryz.func10, Tryz.ntmps10
 go_wp2_with fail
 generalize hW : w.alloc (.cells #[.int .u64 0, .int .u64 0, .int .u64 0] 45) = W at *
 have HW := Lib.hid (And.intro hb0 hres)
 clear hW hb0 hres
 refine hU.mono ?_
 rintro e w1 ⟨v1, rfl, hv1, hb1⟩
 have HV1 := Lib.hid hv1
 have HB1 := Lib.hid hb1
 have hTk := Tickets_any hv1 (fun x hx => HH.out x (List.mem_filter.1 hx).1)
 have HTk := Lib.hid hTk
 obtain ⟨A1, n1, rfl, _, hl1, _⟩ := hv1
 clear hU hb1 hTk c0 c1 c2 c3 c4 c5 c6 c7 c8 c9
 go_wp2_with fail
 refine HTk.out.mono ?_
 rintro e w2 ⟨v2, t, rfl, hi2, ht2, hb2⟩
 have HT2 := Lib.hid ht2
 have HI2 := Lib.hid hi2
 have HB2 := Lib.hid hb2
 have htl : t.length < 10000 := by have := ht2.2; omega
 have hLv := Lives_any ((HV1.out.below hb2).more hb2.size) hi2 (by have := ht2.2; have := List.length_filter_le (untB l[k].en) l; omega)
 have HLv := Lib.hid hLv
 obtain ⟨A2, n2, rfl, _, _, _, _⟩ := hi2
 clear hb2 hLv ht2
 go_wp2_with fail
 refine HLv.out.mono ?_
 rintro e w3 ⟨v3, qs, rfl, hq3, hu3, hb3⟩
 have HQ3 := Lib.hid hq3
 have HU3 := Lib.hid hu3
 have HB3 := Lib.hid hb3
 have hB : Below W.heap.size W w3 := below_then HB1.out (below_then HB2.out hb3)
 obtain ⟨A3, n3, rfl, _, _, _, _⟩ := hq3
 have HBW := Lib.hid hB
 clear hb3 hu3 hB
 obtain ⟨ad', e', hbl', c0, c1, c2, c3, c4, c5, c6, c7, c8, c9⟩ := ev_at (HRd.out.below (HBW.out.mono HW.out.1.size)) hk
 cases e'
 go_wp2_with fail
 have HX := Lib.hid (trip_found HT2.out HU3.out HT.out)
 generalize hH : l[k].h = H at *
 clear hH c0 c1 c2 c3 c4 c5 c6 c7 c8 c9
 have hql : qs.length = t.length := HU3.out.1
 have htpos : 0 < t.length := by obtain ⟨a, b, d, h1, _⟩ := HX.out; omega
 obtain ⟨A3', n3', e3, _, _, hr3, hok3⟩ := HQ3.out
 cases e3
 obtain ⟨A2', n2', e2, _, _, hr2, _⟩ := HI2.out
 cases e2
 have HR3 := Lib.hid (And.intro hr3 hok3)
 have HR2 := Lib.hid ((hr2.below HB3.out).more HB3.out.size)
 obtain ⟨ad2, rfl, _⟩ := hr2.2 htpos
 obtain ⟨ad3, rfl, _⟩ := hr3.2 (by omega)
 clear hr3 hok3 hr2
 have HC : Hid (∀ (i j : Nat) (hi : i < qs.length) (hj : j < qs.length) (W' : World), Below w3.heap.size w3 W' → Calls Tryz.prog 28 #[.agg #[.int .i64 qs[i].x.bg, .int .i64 qs[i].x.en, qs[i].r, qs[i].s], .agg #[.int .i64 qs[j].x.bg, .int .i64 qs[j].x.en, qs[j].r, qs[j].s]] W' fun e w' => e = .returned (.bool (cnfB qs[i].x qs[j].x)) ∧ Below W'.heap.size W' w') :=
  Lib.hid fun i j hi hj W' hb => Conflict_any (lv_life ((HR3.out.2 _ (List.getElem_mem hi)).below hb |>.more hb.size)) (lv_life ((HR3.out.2 _ (List.getElem_mem hj)).below hb |>.more hb.size))
 have HT3 : Hid (∀ (W' : World), Below w3.heap.size w3 W' → ∀ (i : Nat) (hi : i < t.length), W'.cell? (ad2.add i) = some (.int .u64 t[i])) := Lib.hid fun W' hb i hi => int_cell (HR2.out.below hb) hi
 have HQ4 : Hid (∀ (W' : World), Below w3.heap.size w3 W' → ∀ (i : Nat) (hi : i < qs.length), W'.cell? (ad3.add (i * 4)) = some (.int .i64 qs[i].x.bg) ∧ W'.cell? ⟨(ad3.add (i * 4)).block, (ad3.add (i * 4)).off + 1, none⟩ = some (.int .i64 qs[i].x.en) ∧ W'.cell? ⟨(ad3.add (i * 4)).block, (ad3.add (i * 4)).off + 2, none⟩ = some qs[i].r ∧ W'.cell? ⟨(ad3.add (i * 4)).block, (ad3.add (i * 4)).off + 3, none⟩ = some qs[i].s) := Lib.hid fun W' hb i hi => by
  obtain ⟨ad', e', _, x0, x1, x2, x3⟩ := lv_at (HR3.out.1.below hb) hi
  cases e'
  exact ⟨x0, x1, x2, x3⟩
 clear h9 hd he hl hbl hc hl1
 go_loopw [10] (fun i wr => ∃ x : Nat, x ≤ t.length ∧ i = .int .i64 x ∧ Hid (NoT t qs H x 0 0) ∧ Hid (Below w3.heap.size w3 wr)) (fun i _ => t.length - (intOf i).toNat)
 case atStart => exact ⟨0, Nat.zero_le _, rfl, Lib.hid (fun x p y _ _ _ h => by omega), Lib.hid (Below.refl _ _)⟩
 case round =>
  obtain ⟨x, hx, rfl, hNo, hBr⟩ := hrel
  by_cases hxl : x < t.length
  ·go_wp2_with fail
   go_loopw [11] (fun i wr => ∃ p : Nat, p ≤ t.length ∧ i = .int .i64 p ∧ Hid (NoT t qs H x p 0) ∧ Hid (Below w3.heap.size w3 wr)) (fun i _ => t.length - (intOf i).toNat)
   case atStart => exact ⟨0, Nat.zero_le _, rfl, hNo, hBr⟩
   case round =>
    obtain ⟨p, hp, rfl, hNo, hBr⟩ := hrel
    by_cases hpl : p < t.length
    ·go_wp2_with fail
     go_loopw [12] (fun i wr => ∃ y : Nat, y ≤ t.length ∧ i = .int .i64 y ∧ Hid (NoT t qs H x p y) ∧ Hid (Below w3.heap.size w3 wr)) (fun i _ => t.length - (intOf i).toNat)
     case atStart => exact ⟨0, Nat.zero_le _, rfl, hNo, hBr⟩
     case round =>
      obtain ⟨y, hy, rfl, hNo, hBr⟩ := hrel
      by_cases hyl : y < t.length
      ·have tx := HT3.out wr hBr.out x hxl
       have tp := HT3.out wr hBr.out p hpl
       have ty := HT3.out wr hBr.out y hyl
       rcases Bool.eq_false_or_eq_true (t[x] == H) with o1 | o1
       ·go_wp2_with fail
        by_cases hpx : p = x
        ·subst hpx
         refine wp_region_quiet_below (by kernel_rfl) (by kernel_rfl) ?_
         repeat (go_big_quiet_step (fail))
         refine wpQuiet_nil ?_
         rintro w5 ⟨r5, rfl⟩
         have HB5 := Lib.hid (below_then hBr.out (below_regrown wr r5.d r5.os))
         generalize Go.Sort.grow (redrawn wr r5.d) r5.os = w5 at *
         go_wp2_with fail
         go_roundw
         case rel => exact ⟨y + 1, by omega, by go_num, Lib.hid (hNo.out.y (by simp [trB])), HB5⟩
         case measure => simp [intOf] <;> omega
        ·by_cases hpy : p = y
         ·subst hpy
          have g1 : ((p : Int) != (x : Int)) = true := by simp; omega
          refine wp_region_quiet_below (by kernel_rfl) (by kernel_rfl) ?_
          repeat (go_big_quiet_step (fail))
          refine wpQuiet_nil ?_
          rintro w5 ⟨r5, rfl⟩
          have HB5 := Lib.hid (below_then hBr.out (below_regrown wr r5.d r5.os))
          generalize Go.Sort.grow (redrawn wr r5.d) r5.os = w5 at *
          go_wp2_with fail
          go_roundw
          case rel => exact ⟨p + 1, by omega, by go_num, Lib.hid (hNo.out.y (by simp [trB])), HB5⟩
          case measure => simp [intOf] <;> omega
         ·have g1 : ((p : Int) != (x : Int)) = true := by simp; omega
          have g2 : ((p : Int) != (y : Int)) = true := by simp; omega
          obtain ⟨x0, x1, x2, x3⟩ := HQ4.out wr hBr.out x (by omega)
          obtain ⟨p0, p1, p2, p3⟩ := HQ4.out wr hBr.out p (by omega)
          obtain ⟨y0, y1, y2, y3⟩ := HQ4.out wr hBr.out y (by omega)
          have rx0 := cell_regrown x0
          have rx1 := cell_regrown x1
          have rx2 := cell_regrown x2
          have rx3 := cell_regrown x3
          have rp0 := cell_regrown p0
          have rp1 := cell_regrown p1
          have rp2 := cell_regrown p2
          have rp3 := cell_regrown p3
          have ry0 := cell_regrown y0
          have ry1 := cell_regrown y1
          have ry2 := cell_regrown y2
          have ry3 := cell_regrown y3
          have HC1 : Hid (∀ d os, _) := Lib.hid fun d os => HC.out x p (by omega) (by omega) (Go.Sort.grow (redrawn wr d) os) (below_then hBr.out (below_regrown wr d os))
          have HC2 : Hid (∀ d os, _) := Lib.hid fun d os => HC.out p y (by omega) (by omega) (Go.Sort.grow (redrawn wr d) os) (below_then hBr.out (below_regrown wr d os))
          generalize hc1 : cnfB (qs[x]'(by omega)).x (qs[p]'(by omega)).x = b1 at *
          generalize hc2 : cnfB (qs[p]'(by omega)).x (qs[y]'(by omega)).x = b2 at *
          have HE1 := Lib.hid hc1
          have HE2 := Lib.hid hc2
          clear hc1 hc2
          cases b1
          ·refine wp_region_quiet_below (by kernel_rfl) (by kernel_rfl) ?_
           repeat (go_big_quiet_step (first | (go_at_call 28; first | (with_reducible exact quiet_call (HC1.out _ _)) | (with_reducible exact quiet_call (HC2.out _ _)))))
           refine wpQuiet_nil ?_
           rintro w5 ⟨r5, rfl⟩
           have HB5 := Lib.hid (below_then hBr.out (below_regrown wr r5.d r5.os))
           generalize Go.Sort.grow (redrawn wr r5.d) r5.os = w5 at *
           go_wp2_with fail
           go_roundw
           case rel => exact ⟨y + 1, by omega, by go_num, Lib.hid (hNo.out.y (trB_c (by omega) (by omega) (by omega) (.inl HE1.out))), HB5⟩
           case measure => simp [intOf] <;> omega
          ·cases b2
           ·refine wp_region_quiet_below (by kernel_rfl) (by kernel_rfl) ?_
            repeat (go_big_quiet_step (first | (go_at_call 28; first | (with_reducible exact quiet_call (HC1.out _ _)) | (with_reducible exact quiet_call (HC2.out _ _)))))
            refine wpQuiet_nil ?_
            rintro w5 ⟨r5, rfl⟩
            have HB5 := Lib.hid (below_then hBr.out (below_regrown wr r5.d r5.os))
            generalize Go.Sort.grow (redrawn wr r5.d) r5.os = w5 at *
            go_wp2_with fail
            go_roundw
            case rel => exact ⟨y + 1, by omega, by go_num, Lib.hid (hNo.out.y (trB_c (by omega) (by omega) (by omega) (.inr HE2.out))), HB5⟩
            case measure => simp [intOf] <;> omega
           ·refine wp_region_quiet_below (by kernel_rfl) (by kernel_rfl) ?_
            repeat (go_big_quiet_step (first | (go_at_call 28; first | (with_reducible exact quiet_call (HC1.out _ _)) | (with_reducible exact quiet_call (HC2.out _ _)))))
            refine wpQuiet_nil ?_
            rintro w5 ⟨r5, rfl⟩
            have HB5 := Lib.hid (below_then hBr.out (below_regrown wr r5.d r5.os))
            generalize Go.Sort.grow (redrawn wr r5.d) r5.os = w5 at *
            have hB5w : Below W.heap.size W w5 := below_then HBW.out (HB5.out.mono (Nat.le_refl _))
            have hb5 : w5.heap[w.heap.size]? = some (.cells #[.int .u64 0, .int .u64 0, .int .u64 0] 45 (0, 0)) := blk_below HW.out.2 hB5w
            have q0 := blk_cell hb5 0
            have q1 := blk_cell hb5 1
            have q2 := blk_cell hb5 2
            have z0 := blk_frozen hb5 0
            have z1 := blk_frozen hb5 1
            have z2 := blk_frozen hb5 2
            simp at q0 q1 q2
            have tx := HT3.out w5 HB5.out x hxl
            have tp := HT3.out w5 HB5.out p hpl
            have ty := HT3.out w5 HB5.out y hyl
            go_wp2_with fail
            refine region_tail 13 (by kernel_rfl) (by kernel_rfl) ?_
            simp only [List.take_succ_cons, List.take_zero, List.drop_succ_cons, List.drop_zero]
            repeat still_step
            refine wpStill_nil ?_
            go_wp2_with fail
            refine bodyPost_ret (results_row_tmp rfl _ _ w.heap.size 45 #[.int .u64 t[x], .int .u64 t[p], .int .u64 t[y]] (0, 0) _ rfl ?_ Tryz.underlying45 rfl (by kernel_rfl)) rfl ⟨_, _, _, rfl, ?_⟩
            ·exact blk_drew (blk_put (blk_put (blk_put hb5 0 _ rfl) 1 _ rfl) 2 _ rfl)
            ·exact below_drew (below_set (below_set (below_set (below_then HW.out.1 hB5w) (Nat.le_refl _) _) (Nat.le_refl _) _) (Nat.le_refl _) _)
       ·rcases Bool.eq_false_or_eq_true (t[p] == H) with o2 | o2
        ·go_wp2_with fail
         by_cases hpx : p = x
         ·subst hpx
          refine wp_region_quiet_below (by kernel_rfl) (by kernel_rfl) ?_
          repeat (go_big_quiet_step (fail))
          refine wpQuiet_nil ?_
          rintro w5 ⟨r5, rfl⟩
          have HB5 := Lib.hid (below_then hBr.out (below_regrown wr r5.d r5.os))
          generalize Go.Sort.grow (redrawn wr r5.d) r5.os = w5 at *
          go_wp2_with fail
          go_roundw
          case rel => exact ⟨y + 1, by omega, by go_num, Lib.hid (hNo.out.y (by simp [trB])), HB5⟩
          case measure => simp [intOf] <;> omega
         ·by_cases hpy : p = y
          ·subst hpy
           have g1 : ((p : Int) != (x : Int)) = true := by simp; omega
           refine wp_region_quiet_below (by kernel_rfl) (by kernel_rfl) ?_
           repeat (go_big_quiet_step (fail))
           refine wpQuiet_nil ?_
           rintro w5 ⟨r5, rfl⟩
           have HB5 := Lib.hid (below_then hBr.out (below_regrown wr r5.d r5.os))
           generalize Go.Sort.grow (redrawn wr r5.d) r5.os = w5 at *
           go_wp2_with fail
           go_roundw
           case rel => exact ⟨p + 1, by omega, by go_num, Lib.hid (hNo.out.y (by simp [trB])), HB5⟩
           case measure => simp [intOf] <;> omega
          ·have g1 : ((p : Int) != (x : Int)) = true := by simp; omega
           have g2 : ((p : Int) != (y : Int)) = true := by simp; omega
           obtain ⟨x0, x1, x2, x3⟩ := HQ4.out wr hBr.out x (by omega)
           obtain ⟨p0, p1, p2, p3⟩ := HQ4.out wr hBr.out p (by omega)
           obtain ⟨y0, y1, y2, y3⟩ := HQ4.out wr hBr.out y (by omega)
           have rx0 := cell_regrown x0
           have rx1 := cell_regrown x1
           have rx2 := cell_regrown x2
           have rx3 := cell_regrown x3
           have rp0 := cell_regrown p0
           have rp1 := cell_regrown p1
           have rp2 := cell_regrown p2
           have rp3 := cell_regrown p3
           have ry0 := cell_regrown y0
           have ry1 := cell_regrown y1
           have ry2 := cell_regrown y2
           have ry3 := cell_regrown y3
           have HC1 : Hid (∀ d os, _) := Lib.hid fun d os => HC.out x p (by omega) (by omega) (Go.Sort.grow (redrawn wr d) os) (below_then hBr.out (below_regrown wr d os))
           have HC2 : Hid (∀ d os, _) := Lib.hid fun d os => HC.out p y (by omega) (by omega) (Go.Sort.grow (redrawn wr d) os) (below_then hBr.out (below_regrown wr d os))
           generalize hc1 : cnfB (qs[x]'(by omega)).x (qs[p]'(by omega)).x = b1 at *
           generalize hc2 : cnfB (qs[p]'(by omega)).x (qs[y]'(by omega)).x = b2 at *
           have HE1 := Lib.hid hc1
           have HE2 := Lib.hid hc2
           clear hc1 hc2
           cases b1
           ·refine wp_region_quiet_below (by kernel_rfl) (by kernel_rfl) ?_
            repeat (go_big_quiet_step (first | (go_at_call 28; first | (with_reducible exact quiet_call (HC1.out _ _)) | (with_reducible exact quiet_call (HC2.out _ _)))))
            refine wpQuiet_nil ?_
            rintro w5 ⟨r5, rfl⟩
            have HB5 := Lib.hid (below_then hBr.out (below_regrown wr r5.d r5.os))
            generalize Go.Sort.grow (redrawn wr r5.d) r5.os = w5 at *
            go_wp2_with fail
            go_roundw
            case rel => exact ⟨y + 1, by omega, by go_num, Lib.hid (hNo.out.y (trB_c (by omega) (by omega) (by omega) (.inl HE1.out))), HB5⟩
            case measure => simp [intOf] <;> omega
           ·cases b2
            ·refine wp_region_quiet_below (by kernel_rfl) (by kernel_rfl) ?_
             repeat (go_big_quiet_step (first | (go_at_call 28; first | (with_reducible exact quiet_call (HC1.out _ _)) | (with_reducible exact quiet_call (HC2.out _ _)))))
             refine wpQuiet_nil ?_
             rintro w5 ⟨r5, rfl⟩
             have HB5 := Lib.hid (below_then hBr.out (below_regrown wr r5.d r5.os))
             generalize Go.Sort.grow (redrawn wr r5.d) r5.os = w5 at *
             go_wp2_with fail
             go_roundw
             case rel => exact ⟨y + 1, by omega, by go_num, Lib.hid (hNo.out.y (trB_c (by omega) (by omega) (by omega) (.inr HE2.out))), HB5⟩
             case measure => simp [intOf] <;> omega
            ·refine wp_region_quiet_below (by kernel_rfl) (by kernel_rfl) ?_
             repeat (go_big_quiet_step (first | (go_at_call 28; first | (with_reducible exact quiet_call (HC1.out _ _)) | (with_reducible exact quiet_call (HC2.out _ _)))))
             refine wpQuiet_nil ?_
             rintro w5 ⟨r5, rfl⟩
             have HB5 := Lib.hid (below_then hBr.out (below_regrown wr r5.d r5.os))
             generalize Go.Sort.grow (redrawn wr r5.d) r5.os = w5 at *
             have hB5w : Below W.heap.size W w5 := below_then HBW.out (HB5.out.mono (Nat.le_refl _))
             have hb5 : w5.heap[w.heap.size]? = some (.cells #[.int .u64 0, .int .u64 0, .int .u64 0] 45 (0, 0)) := blk_below HW.out.2 hB5w
             have q0 := blk_cell hb5 0
             have q1 := blk_cell hb5 1
             have q2 := blk_cell hb5 2
             have z0 := blk_frozen hb5 0
             have z1 := blk_frozen hb5 1
             have z2 := blk_frozen hb5 2
             simp at q0 q1 q2
             have tx := HT3.out w5 HB5.out x hxl
             have tp := HT3.out w5 HB5.out p hpl
             have ty := HT3.out w5 HB5.out y hyl
             go_wp2_with fail
             refine region_tail 13 (by kernel_rfl) (by kernel_rfl) ?_
             simp only [List.take_succ_cons, List.take_zero, List.drop_succ_cons, List.drop_zero]
             repeat still_step
             refine wpStill_nil ?_
             go_wp2_with fail
             refine bodyPost_ret (results_row_tmp rfl _ _ w.heap.size 45 #[.int .u64 t[x], .int .u64 t[p], .int .u64 t[y]] (0, 0) _ rfl ?_ Tryz.underlying45 rfl (by kernel_rfl)) rfl ⟨_, _, _, rfl, ?_⟩
             ·exact blk_drew (blk_put (blk_put (blk_put hb5 0 _ rfl) 1 _ rfl) 2 _ rfl)
             ·exact below_drew (below_set (below_set (below_set (below_then HW.out.1 hB5w) (Nat.le_refl _) _) (Nat.le_refl _) _) (Nat.le_refl _) _)
        ·rcases Bool.eq_false_or_eq_true (t[y] == H) with o3 | o3
         ·go_wp2_with fail
          by_cases hpx : p = x
          ·subst hpx
           refine wp_region_quiet_below (by kernel_rfl) (by kernel_rfl) ?_
           repeat (go_big_quiet_step (fail))
           refine wpQuiet_nil ?_
           rintro w5 ⟨r5, rfl⟩
           have HB5 := Lib.hid (below_then hBr.out (below_regrown wr r5.d r5.os))
           generalize Go.Sort.grow (redrawn wr r5.d) r5.os = w5 at *
           go_wp2_with fail
           go_roundw
           case rel => exact ⟨y + 1, by omega, by go_num, Lib.hid (hNo.out.y (by simp [trB])), HB5⟩
           case measure => simp [intOf] <;> omega
          ·by_cases hpy : p = y
           ·subst hpy
            have g1 : ((p : Int) != (x : Int)) = true := by simp; omega
            refine wp_region_quiet_below (by kernel_rfl) (by kernel_rfl) ?_
            repeat (go_big_quiet_step (fail))
            refine wpQuiet_nil ?_
            rintro w5 ⟨r5, rfl⟩
            have HB5 := Lib.hid (below_then hBr.out (below_regrown wr r5.d r5.os))
            generalize Go.Sort.grow (redrawn wr r5.d) r5.os = w5 at *
            go_wp2_with fail
            go_roundw
            case rel => exact ⟨p + 1, by omega, by go_num, Lib.hid (hNo.out.y (by simp [trB])), HB5⟩
            case measure => simp [intOf] <;> omega
           ·have g1 : ((p : Int) != (x : Int)) = true := by simp; omega
            have g2 : ((p : Int) != (y : Int)) = true := by simp; omega
            obtain ⟨x0, x1, x2, x3⟩ := HQ4.out wr hBr.out x (by omega)
            obtain ⟨p0, p1, p2, p3⟩ := HQ4.out wr hBr.out p (by omega)
            obtain ⟨y0, y1, y2, y3⟩ := HQ4.out wr hBr.out y (by omega)
            have rx0 := cell_regrown x0
            have rx1 := cell_regrown x1
            have rx2 := cell_regrown x2
            have rx3 := cell_regrown x3
            have rp0 := cell_regrown p0
            have rp1 := cell_regrown p1
            have rp2 := cell_regrown p2
            have rp3 := cell_regrown p3
            have ry0 := cell_regrown y0
            have ry1 := cell_regrown y1
            have ry2 := cell_regrown y2
            have ry3 := cell_regrown y3
            have HC1 : Hid (∀ d os, _) := Lib.hid fun d os => HC.out x p (by omega) (by omega) (Go.Sort.grow (redrawn wr d) os) (below_then hBr.out (below_regrown wr d os))
            have HC2 : Hid (∀ d os, _) := Lib.hid fun d os => HC.out p y (by omega) (by omega) (Go.Sort.grow (redrawn wr d) os) (below_then hBr.out (below_regrown wr d os))
            generalize hc1 : cnfB (qs[x]'(by omega)).x (qs[p]'(by omega)).x = b1 at *
            generalize hc2 : cnfB (qs[p]'(by omega)).x (qs[y]'(by omega)).x = b2 at *
            have HE1 := Lib.hid hc1
            have HE2 := Lib.hid hc2
            clear hc1 hc2
            cases b1
            ·refine wp_region_quiet_below (by kernel_rfl) (by kernel_rfl) ?_
             repeat (go_big_quiet_step (first | (go_at_call 28; first | (with_reducible exact quiet_call (HC1.out _ _)) | (with_reducible exact quiet_call (HC2.out _ _)))))
             refine wpQuiet_nil ?_
             rintro w5 ⟨r5, rfl⟩
             have HB5 := Lib.hid (below_then hBr.out (below_regrown wr r5.d r5.os))
             generalize Go.Sort.grow (redrawn wr r5.d) r5.os = w5 at *
             go_wp2_with fail
             go_roundw
             case rel => exact ⟨y + 1, by omega, by go_num, Lib.hid (hNo.out.y (trB_c (by omega) (by omega) (by omega) (.inl HE1.out))), HB5⟩
             case measure => simp [intOf] <;> omega
            ·cases b2
             ·refine wp_region_quiet_below (by kernel_rfl) (by kernel_rfl) ?_
              repeat (go_big_quiet_step (first | (go_at_call 28; first | (with_reducible exact quiet_call (HC1.out _ _)) | (with_reducible exact quiet_call (HC2.out _ _)))))
              refine wpQuiet_nil ?_
              rintro w5 ⟨r5, rfl⟩
              have HB5 := Lib.hid (below_then hBr.out (below_regrown wr r5.d r5.os))
              generalize Go.Sort.grow (redrawn wr r5.d) r5.os = w5 at *
              go_wp2_with fail
              go_roundw
              case rel => exact ⟨y + 1, by omega, by go_num, Lib.hid (hNo.out.y (trB_c (by omega) (by omega) (by omega) (.inr HE2.out))), HB5⟩
              case measure => simp [intOf] <;> omega
             ·refine wp_region_quiet_below (by kernel_rfl) (by kernel_rfl) ?_
              repeat (go_big_quiet_step (first | (go_at_call 28; first | (with_reducible exact quiet_call (HC1.out _ _)) | (with_reducible exact quiet_call (HC2.out _ _)))))
              refine wpQuiet_nil ?_
              rintro w5 ⟨r5, rfl⟩
              have HB5 := Lib.hid (below_then hBr.out (below_regrown wr r5.d r5.os))
              generalize Go.Sort.grow (redrawn wr r5.d) r5.os = w5 at *
              have hB5w : Below W.heap.size W w5 := below_then HBW.out (HB5.out.mono (Nat.le_refl _))
              have hb5 : w5.heap[w.heap.size]? = some (.cells #[.int .u64 0, .int .u64 0, .int .u64 0] 45 (0, 0)) := blk_below HW.out.2 hB5w
              have q0 := blk_cell hb5 0
              have q1 := blk_cell hb5 1
              have q2 := blk_cell hb5 2
              have z0 := blk_frozen hb5 0
              have z1 := blk_frozen hb5 1
              have z2 := blk_frozen hb5 2
              simp at q0 q1 q2
              have tx := HT3.out w5 HB5.out x hxl
              have tp := HT3.out w5 HB5.out p hpl
              have ty := HT3.out w5 HB5.out y hyl
              go_wp2_with fail
              refine region_tail 13 (by kernel_rfl) (by kernel_rfl) ?_
              simp only [List.take_succ_cons, List.take_zero, List.drop_succ_cons, List.drop_zero]
              repeat still_step
              refine wpStill_nil ?_
              go_wp2_with fail
              refine bodyPost_ret (results_row_tmp rfl _ _ w.heap.size 45 #[.int .u64 t[x], .int .u64 t[p], .int .u64 t[y]] (0, 0) _ rfl ?_ Tryz.underlying45 rfl (by kernel_rfl)) rfl ⟨_, _, _, rfl, ?_⟩
              ·exact blk_drew (blk_put (blk_put (blk_put hb5 0 _ rfl) 1 _ rfl) 2 _ rfl)
              ·exact below_drew (below_set (below_set (below_set (below_then HW.out.1 hB5w) (Nat.le_refl _) _) (Nat.le_refl _) _) (Nat.le_refl _) _)
         ·go_wp2_with fail
          by_cases hpx : p = x
          ·subst hpx
           refine wp_region_quiet_below (by kernel_rfl) (by kernel_rfl) ?_
           repeat (go_big_quiet_step (fail))
           refine wpQuiet_nil ?_
           rintro w5 ⟨r5, rfl⟩
           have HB5 := Lib.hid (below_then hBr.out (below_regrown wr r5.d r5.os))
           generalize Go.Sort.grow (redrawn wr r5.d) r5.os = w5 at *
           go_wp2_with fail
           go_roundw
           case rel => exact ⟨y + 1, by omega, by go_num, Lib.hid (hNo.out.y (by simp [trB])), HB5⟩
           case measure => simp [intOf] <;> omega
          ·by_cases hpy : p = y
           ·subst hpy
            have g1 : ((p : Int) != (x : Int)) = true := by simp; omega
            refine wp_region_quiet_below (by kernel_rfl) (by kernel_rfl) ?_
            repeat (go_big_quiet_step (fail))
            refine wpQuiet_nil ?_
            rintro w5 ⟨r5, rfl⟩
            have HB5 := Lib.hid (below_then hBr.out (below_regrown wr r5.d r5.os))
            generalize Go.Sort.grow (redrawn wr r5.d) r5.os = w5 at *
            go_wp2_with fail
            go_roundw
            case rel => exact ⟨p + 1, by omega, by go_num, Lib.hid (hNo.out.y (by simp [trB])), HB5⟩
            case measure => simp [intOf] <;> omega
           ·have g1 : ((p : Int) != (x : Int)) = true := by simp; omega
            have g2 : ((p : Int) != (y : Int)) = true := by simp; omega
            refine wp_region_quiet_below (by kernel_rfl) (by kernel_rfl) ?_
            repeat (go_big_quiet_step (fail))
            refine wpQuiet_nil ?_
            rintro w5 ⟨r5, rfl⟩
            have HB5 := Lib.hid (below_then hBr.out (below_regrown wr r5.d r5.os))
            generalize Go.Sort.grow (redrawn wr r5.d) r5.os = w5 at *
            go_wp2_with fail
            go_roundw
            case rel => exact ⟨y + 1, by omega, by go_num, Lib.hid (hNo.out.y (trB_o hxl hpl hyl o1 o2 o3)), HB5⟩
            case measure => simp [intOf] <;> omega
      ·have hyt : y = t.length := by omega
       have HYT := Lib.hid hyt
       clear hyt
       go_wp2_with fail
       go_roundw
       case rel => exact ⟨p + 1, by omega, by go_num, Lib.hid (NoT.p (HYT.out ▸ hNo.out)), hBr⟩
       case measure => simp [intOf] <;> omega
    ·have hpt : p = t.length := by omega
     have HPT := Lib.hid hpt
     clear hpt
     go_wp2_with fail
     go_roundw
     case rel => exact ⟨x + 1, by omega, by go_num, Lib.hid (NoT.x (HPT.out ▸ hNo.out)), hBr⟩
     case measure => simp [intOf] <;> omega
  ·exfalso
   obtain ⟨a, b, d, h1, h2, h3, h4⟩ := HX.out
   have := hNo.out a b d h1 h2 h3 (by omega)
   rw [this] at h4
   cases h4
end Go.Proofs.YtfinmiakbpmjiaaGreat.Re
