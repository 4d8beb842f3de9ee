/-
  A clash has a rival.
-/
import Derived.Test.YtfinmiakbpmjiaaGreatReA
import Derived.BigRegion
import Derived.Test.YtfinmiakbpmjiaaGreatReI
set_option linter.unusedSimpArgs false
set_option linter.unusedVariables false
set_option maxRecDepth 100000
namespace Go.Proofs.YtfinmiakbpmjiaaGreat.Re
open Go Go.RowKit Go.Proofs.YtfinmiakbpmjiaaGreat
def RivAt (l : List Rv) (h κ v : Int) : Prop := v ≠ h ∧ ∀ A O, LifeOf l v A → LifeOf l h O → metB A O = true ∧ inB A.ws κ = true
theorem rival_at {l : List Rv} {t : List Int} {h κ : Int} (ht : TicketsOf l t) (hr : RivalOf l h κ) : ∃ i, ∃ hi : i < t.length, RivAt l h κ t[i] := by
 obtain ⟨x, ⟨e, h1, h2, rfl⟩, h3, h4⟩ := hr
 obtain ⟨i, hi⟩ := List.mem_iff_getElem?.1 (ht.1 e h1 h2)
 obtain ⟨hl, e⟩ := List.getElem?_eq_some_iff.1 hi
 exact ⟨i, hl, by rw [e]; exact ⟨h3, h4⟩⟩
def NoR (l : List Rv) (h κ : Int) (t : List Int) (n : Nat) : Prop := ∀ i (hi : i < t.length), i < n → ¬ RivAt l h κ t[i]
theorem NoR.next {l : List Rv} {h κ : Int} {t : List Int} {n : Nat} (f : NoR l h κ t n) (hn : n < t.length) (h1 : ¬ RivAt l h κ t[n]) : NoR l h κ t (n + 1) := by
 intro i hi hlt
 by_cases e : i = n
 ·subst e; exact h1
 ·exact f i hi (by omega)
set_option maxHeartbeats 8000000 in
theorem Clash_yes {v : Value} {l : List Rv} {w : World} (hv : Evs w w.heap.size v l) (hh : ∀ x ∈ l, x.h < 18446744073709551616) {k : Nat} (hk : k < l.length) (h9 : l.length < 9000) (hd : l[k].dn = true) (he : l[k].e = 8) (hT : RivalOf (l.filter (untB l[k].en)) l[k].h l[k].k) :
  Calls Tryz.prog 11 #[v, .int .i64 (k : Int)] w fun e w' => ∃ a, e = .returned (.tuple #[a, .bool true]) ∧ Below w.heap.size w w' := by
 have HH := Lib.hid hh
 have HT := Lib.hid hT
 clear hh hT
 have hU := Until_any l[k].en hv
 obtain ⟨A, c, rfl, hc, hl, hr⟩ := hv
 obtain ⟨ad, rfl, hbl, c0, c1, c2, c3, c4, c5, c6, c7, c8, c9⟩ := ev_at hr hk
 rw [hd] at c9
 rw [he] at c4
 have HRd := Lib.hid hr
 clear hr
 go_enter Tryz.func11, Tryz.ntmps11
 go_wp2_with fail
 refine hU.mono ?_
 rintro e w1 ⟨v1, rfl, hv1, hb1⟩
 have HV1 := Lib.hid hv1
 have HB1 := Lib.hid hb1
 have hTk := Tickets_any hv1 (fun x hx => HH.out x (List.mem_filter.1 hx).1)
 have HTk := Lib.hid hTk
 obtain ⟨A1, n1, rfl, _, hl1, _⟩ := hv1
 clear hU hb1 hTk c0 c1 c2 c3 c4 c5 c6 c7 c8 c9
 go_wp2_with fail
 refine HTk.out.mono ?_
 rintro e w2 ⟨v2, t, rfl, hi2, ht2, hb2⟩
 have HT2 := Lib.hid ht2
 have HI2 := Lib.hid hi2
 have HB2 := Lib.hid hb2
 have htl : t.length < 10000 := by have := ht2.2; omega
 have hOf := fun (h : Int) (W : World) (hb : Below w2.heap.size w2 W) => Of_any h (((HV1.out.below hb2).more hb2.size).below hb |>.more hb.size)
 have HOf := Lib.hid hOf
 obtain ⟨A2, n2, rfl, _, _, _, _⟩ := hi2
 clear hb2 hOf ht2
 have HBW := Lib.hid (below_then HB1.out HB2.out)
 obtain ⟨ad', e', hbl', c0, c1, c2, c3, c4, c5, c6, c7, c8, c9⟩ := ev_at (HRd.out.below HBW.out) hk
 cases e'
 go_wp2_with fail
 refine (HOf.out l[k].h w2 (Below.refl _ _)).mono ?_
 rintro e w3 ⟨vr, vs, O, rfl, ⟨oi1, oi2⟩, _, hO, hb3⟩
 have HO := Lib.hid (And.intro hO (And.intro oi1 oi2))
 have HB3 := Lib.hid hb3
 have HBW3 := Lib.hid (below_then HBW.out hb3)
 clear hO hb3
 obtain ⟨A5, n5, rfl, _, _, _, _⟩ := oi1
 obtain ⟨A6, n6, rfl, _, _, _, _⟩ := oi2
 clear c0 c1 c2 c3 c4 c5 c6 c7 c8 c9
 obtain ⟨A2', n2', e2, _, _, hr2, _⟩ := HI2.out
 cases e2
 have hown := blk_new w3 (.cells #[.int .i64 O.bg, .int .i64 O.en, .slice A5 O.rs.length n5, .slice A6 O.ws.length n6] 83)
 go_wp2_with fail
 have hb4 := below_alloc HB3.out (.cells #[.int .i64 O.bg, .int .i64 O.en, .slice A5 O.rs.length n5, .slice A6 O.ws.length n6] 83)
 have hs4 : w3.heap.size < (w3.alloc (.cells #[.int .i64 O.bg, .int .i64 O.en, .slice A5 O.rs.length n5, .slice A6 O.ws.length n6] 83)).heap.size := by simp
 have hb34 : Below w3.heap.size w3 (w3.alloc (.cells #[.int .i64 O.bg, .int .i64 O.en, .slice A5 O.rs.length n5, .slice A6 O.ws.length n6] 83)) := below_alloc (Below.refl _ _) _
 generalize w3.alloc (.cells #[.int .i64 O.bg, .int .i64 O.en, .slice A5 O.rs.length n5, .slice A6 O.ws.length n6] 83) = W4 at *
 have H4 := Lib.hid (And.intro hb4 (And.intro hown (And.intro hs4 hb34)))
 have HR2 := Lib.hid (hr2.below hb4)
 clear hb4 hown hr2 hs4 hb34
 go_loopw [9] (fun i wr => ∃ x : Nat, x ≤ t.length ∧ i = .int .i64 x ∧ Hid (NoR (l.filter (untB l[k].en)) l[k].h l[k].k t x) ∧ Hid (Below W4.heap.size W4 wr)) (fun i _ => t.length - (intOf i).toNat)
 case atStart => exact ⟨0, Nat.zero_le _, rfl, Lib.hid (fun i _ h => by omega), Lib.hid (Below.refl _ _)⟩
 case round =>
  obtain ⟨x, hx, rfl, hNo, hBr⟩ := hrel
  by_cases hxl : x < t.length
  ·have hbw2 : Below w2.heap.size w2 wr := below_then H4.out.1 hBr.out
   have hz := blk_new wr (.cells #[.int .i64 0, .int .i64 0, .slice none 0 0, .slice none 0 0] 83)
   have HBW2 := Lib.hid hbw2
   obtain ⟨ad2, u, e2, hb2', hu, hcl⟩ := (HR2.out.below (hBr.out.mono (by have := H4.out.1.size; omega))).at_ hxl
   have hu' : u = .int .u64 t[x] := by
    rw [List.getElem?_map, List.getElem?_eq_getElem hxl] at hu
    simpa using hu.symm
   subst hu'
   subst e2
   clear hu hbw2
   go_wp2_with fail
   refine (HOf.out t[x] _ HBW2.out).mono ?_
   rintro e w5 ⟨vr, vs, A, rfl, ⟨ai1, ai2⟩, _, hA, hb5⟩
   have HA := Lib.hid (And.intro hA (And.intro ai1 ai2))
   have HB5 := Lib.hid hb5
   obtain ⟨A7, n7, rfl, _, _, _, _⟩ := ai1
   obtain ⟨A8, n8, rfl, _, _, _, _⟩ := ai2
   clear hA hb5 hcl hz
   go_wp2_with fail
   have hnew := blk_new w5 (.cells #[.int .i64 A.bg, .int .i64 A.en, .slice A7 A.rs.length n7, .slice A8 A.ws.length n8] 83)
   have hb6 : Below W4.heap.size W4 (w5.alloc (.cells #[.int .i64 A.bg, .int .i64 A.en, .slice A7 A.rs.length n7, .slice A8 A.ws.length n8] 83)) := below_alloc (below_then hBr.out HB5.out) _
   have hb56 : Below w5.heap.size w5 (w5.alloc (.cells #[.int .i64 A.bg, .int .i64 A.en, .slice A7 A.rs.length n7, .slice A8 A.ws.length n8] 83)) := below_alloc (Below.refl _ _) _
   generalize w5.alloc (.cells #[.int .i64 A.bg, .int .i64 A.en, .slice A7 A.rs.length n7, .slice A8 A.ws.length n8] 83) = W6 at *
   have HB6 := Lib.hid hb6
   have HB56 := Lib.hid hb56
   have hown := blk_below H4.out.2.1 (hb6.mono (Nat.le_refl _))
   have hbw6 : Below w2.heap.size w2 W6 := below_then H4.out.1 hb6
   have hbw : Below w.heap.size w W6 := below_then HBW.out hbw6
   clear hb6 hb56
   have o0 := blk_cell hown 0
   have o1 := blk_cell hown 1
   have o2 := blk_cell hown 2
   have o3 := blk_cell hown 3
   have a0 := blk_cell hnew 0
   have a1 := blk_cell hnew 1
   have a2 := blk_cell hnew 2
   have a3 := blk_cell hnew 3
   simp at o0 o1 o2 o3 a0 a1 a2 a3
   have tx : W6.cell? (ad2.add x) = some (.int .u64 t[x]) := int_cell (HR2.out.below (HB6.out.mono H4.out.1.size)) hxl
   obtain ⟨ad', e', hbl'', c0, c1, c2, c3, c4, c5, c6, c7, c8, c9⟩ := ev_at (HRd.out.below hbw) hk
   cases e'
   have r0 := cell_regrown o0
   have r1 := cell_regrown o1
   have r2 := cell_regrown o2
   have r3 := cell_regrown o3
   have r4 := cell_regrown a0
   have r5 := cell_regrown a1
   have r6 := cell_regrown a2
   have r7 := cell_regrown a3
   have r8 := cell_regrown tx
   have r9 := cell_regrown c2
   have r10 := cell_regrown c3
   have c2' : W6.cell? ⟨(ad.add (k * 10)).block, (ad.add (k * 10)).off + 1 + 1, none⟩ = some (.int .u64 l[k].h) := c2
   have c3' : W6.cell? ⟨(ad.add (k * 10)).block, (ad.add (k * 10)).off + 1 + 2, none⟩ = some (.int .i64 l[k].k) := c3
   have r11 := cell_regrown c2'
   have r12 := cell_regrown c3'
   clear c0 c1 c4 c5 c6 c7 c8 c9 hown hnew
   have hgr : ∀ d os, Below W6.heap.size W6 (Go.Sort.grow (redrawn W6 d) os) := fun d os => below_regrown W6 d os
   have hlA : ∀ d os, LifeV (Go.Sort.grow (redrawn W6 d) os) (Go.Sort.grow (redrawn W6 d) os).heap.size (.agg #[.int .i64 A.bg, .int .i64 A.en, .slice A7 A.rs.length n7, .slice A8 A.ws.length n8]) A := fun d os => by
    have hb : Below w5.heap.size w5 (Go.Sort.grow (redrawn W6 d) os) := below_then HB56.out (hgr d os)
    exact ((LifeV.below ⟨_, _, rfl, HA.out.2.1, HA.out.2.2⟩ hb).more hb.size)
   have hlO : ∀ d os, LifeV (Go.Sort.grow (redrawn W6 d) os) (Go.Sort.grow (redrawn W6 d) os).heap.size (.agg #[.int .i64 O.bg, .int .i64 O.en, .slice A5 O.rs.length n5, .slice A6 O.ws.length n6]) O := fun d os => by
    have hb : Below w3.heap.size w3 (Go.Sort.grow (redrawn W6 d) os) := below_then H4.out.2.2.2 (below_then HB6.out (hgr d os))
    exact ((LifeV.below ⟨_, _, rfl, HO.out.2.1, HO.out.2.2⟩ hb).more hb.size)
   have HM : Hid (∀ d os, _) := Lib.hid fun d os => Meet_any (hlA d os) (hlO d os)
   have HI : Hid (∀ (d : Nat) (os : Array Obj), Calls Tryz.prog 30 #[.slice A8 A.ws.length n8, .int .i64 l[k].k] (Go.Sort.grow (redrawn W6 d) os) fun e w' => e = .returned (.bool (inB A.ws l[k].k)) ∧ Below (Go.Sort.grow (redrawn W6 d) os).heap.size (Go.Sort.grow (redrawn W6 d) os) w') := Lib.hid fun d os => (In_any l[k].k ((HA.out.2.2.below (below_then HB56.out (hgr d os))).more (below_then HB56.out (hgr d os)).size)).mono (by rintro e w' ⟨rfl, rfl⟩; exact ⟨rfl, Below.refl _ _⟩)
   clear hgr hlA hlO
   generalize hm : metB A O = m at *
   generalize hn : inB A.ws l[k].k = n at *
   have HM1 := Lib.hid hm
   have HN1 := Lib.hid hn
   clear hm hn
   rcases Bool.eq_false_or_eq_true (t[x] != l[k].h) with g1 | g1
   ·cases m
    ·refine wp_region_quiet_below (by kernel_rfl) (by kernel_rfl) ?_
     repeat (go_big_quiet_step (first | (go_at_call 25; with_reducible exact quiet_call (HM.out _ _)) | (go_at_call 30; with_reducible exact quiet_call (HI.out _ _))))
     refine wpQuiet_nil ?_
     rintro w7 ⟨r7, rfl⟩
     have HB7 := Lib.hid (below_then HB6.out (below_regrown W6 r7.d r7.os))
     generalize Go.Sort.grow (redrawn W6 r7.d) r7.os = w7 at *
     go_wp2_with fail
     go_roundw
     case rel => exact ⟨x + 1, by omega, by go_num, Lib.hid (hNo.out.next hxl (fun hr => by have := (hr.2 A O HA.out.1 HO.out.1).1; rw [HM1.out] at this; cases this)), HB7⟩
     case measure => simp [intOf] <;> omega
    ·cases n
     ·refine wp_region_quiet_below (by kernel_rfl) (by kernel_rfl) ?_
      repeat (go_big_quiet_step (first | (go_at_call 25; with_reducible exact quiet_call (HM.out _ _)) | (go_at_call 30; with_reducible exact quiet_call (HI.out _ _))))
      refine wpQuiet_nil ?_
      rintro w7 ⟨r7, rfl⟩
      have HB7 := Lib.hid (below_then HB6.out (below_regrown W6 r7.d r7.os))
      generalize Go.Sort.grow (redrawn W6 r7.d) r7.os = w7 at *
      go_wp2_with fail
      go_roundw
      case rel => exact ⟨x + 1, by omega, by go_num, Lib.hid (hNo.out.next hxl (fun hr => by have := (hr.2 A O HA.out.1 HO.out.1).2; rw [HN1.out] at this; cases this)), HB7⟩
      case measure => simp [intOf] <;> omega
     ·refine wp_region_quiet_below (by kernel_rfl) (by kernel_rfl) ?_
      repeat (go_big_quiet_step (first | (go_at_call 25; with_reducible exact quiet_call (HM.out _ _)) | (go_at_call 30; with_reducible exact quiet_call (HI.out _ _))))
      refine wpQuiet_nil ?_
      rintro w7 ⟨r7, rfl⟩
      have HB7 := Lib.hid (below_then HB6.out (below_regrown W6 r7.d r7.os))
      generalize Go.Sort.grow (redrawn W6 r7.d) r7.os = w7 at *
      have hbz : Below w.heap.size w w7 := below_then HBW.out (below_then H4.out.1 HB7.out)
      have tx : w7.cell? (ad2.add x) = some (.int .u64 t[x]) := int_cell (HR2.out.below (HB7.out.mono H4.out.1.size)) hxl
      go_wp2_with fail
      go_ret2
      exact ⟨_, rfl, hbz⟩
   ·have G1 := Lib.hid g1
    refine wp_region_quiet_below (by kernel_rfl) (by kernel_rfl) ?_
    repeat (go_big_quiet_step (fail))
    refine wpQuiet_nil ?_
    rintro w7 ⟨r7, rfl⟩
    have HB7 := Lib.hid (below_then HB6.out (below_regrown W6 r7.d r7.os))
    generalize Go.Sort.grow (redrawn W6 r7.d) r7.os = w7 at *
    go_wp2_with fail
    go_roundw
    case rel => exact ⟨x + 1, by omega, by go_num, Lib.hid (hNo.out.next hxl (fun hr => by have := G1.out; simp at this; exact hr.1 this)), HB7⟩
    case measure => simp [intOf] <;> omega
  ·exfalso
   obtain ⟨i, hi, h1⟩ := rival_at HT2.out HT.out
   exact hNo.out i hi (by omega) h1
set_option maxHeartbeats 4000000 in
theorem Fail_no {v : Value} {l : List Rv} {w : World} (hv : Evs w w.heap.size v l) {k : Nat} (hk : k < l.length) (hd : l[k].dn = true) (he : (l[k].e != 7) = true) :
  Calls Tryz.prog 10 #[v, .int .i64 (k : Int)] w fun e w' => ∃ a b c : Int, e = .returned (.tuple #[.agg #[.int .u64 a, .int .u64 b, .int .u64 c], .bool false]) ∧ Below w.heap.size w w' := by
 have hb0 := below_alloc (Below.refl w.heap.size w) (.cells #[.int .u64 0, .int .u64 0, .int .u64 0] 45)
 have hres := blk_new w (.cells #[.int .u64 0, .int .u64 0, .int .u64 0] 45)
 obtain ⟨A, c, rfl, hc, hl, hr⟩ := hv
 obtain ⟨ad, rfl, hbl, c0, c1, c2, c3, c4, c5, c6, c7, c8, c9⟩ := ev_at (hr.below hb0) hk
 rw [hd] at c9
 generalize l[k].e = E at *
 have HB := Lib.hid hb0
 have HL := Lib.hid hres
 clear hr hb0
 go_enter Tryz.func10, Tryz.ntmps10
 go_wp2_with fail
 (try simp only [Exit.inBlock, Exit.then])
 refine bodyPost_ret (results_row_tmp rfl _ _ w.heap.size 45 #[.int .u64 0, .int .u64 0, .int .u64 0] (0, 0) _ rfl ?_ Tryz.underlying45 rfl (by kernel_rfl)) rfl ⟨0, 0, 0, rfl, ?_⟩
 ·exact HL.out
 ·exact HB.out
set_option maxHeartbeats 4000000 in
theorem Clash_no {v : Value} {l : List Rv} {w : World} (hv : Evs w w.heap.size v l) {k : Nat} (hk : k < l.length) (hd : l[k].dn = true) (he : (l[k].e != 8) = true) :
  Calls Tryz.prog 11 #[v, .int .i64 (k : Int)] w fun e w' => ∃ a, e = .returned (.tuple #[a, .bool false]) ∧ Below w.heap.size w w' := by
 obtain ⟨A, c, rfl, hc, hl, hr⟩ := hv
 obtain ⟨ad, rfl, hbl, c0, c1, c2, c3, c4, c5, c6, c7, c8, c9⟩ := ev_at hr hk
 rw [hd] at c9
 generalize l[k].e = E at *
 clear hr
 go_enter Tryz.func11, Tryz.ntmps11
 go_wp2_with fail
 go_ret2
 exact ⟨_, rfl, Below.refl _ _⟩
end Go.Proofs.YtfinmiakbpmjiaaGreat.Re
