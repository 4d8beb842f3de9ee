/-
  The world's log, and a new world.
-/
import Derived.Test.YtfinmiakbpmjiaaGreatPlL
import Derived.Test.YtfinmiakbpmjiaaGreatReA
import Derived.Test.YtfinmiakbpmjiaaGreatWoE
import Derived.Maps.AppendAt
import Derived.Test.YtfinmiakbpmjiaaGreatChA
import Derived.BigRegion
import Derived.Laws.CopyOwn
import Derived.Deep.RegionWith
import Derived.Deep.RegionLaw
set_option linter.unusedSimpArgs false
set_option linter.unusedVariables false
set_option maxRecDepth 100000
namespace Go.Proofs.YtfinmiakbpmjiaaGreat.Um
open Go Go.RowKit Go.Proofs.YtfinmiakbpmjiaaGreat Go.Proofs.YtfinmiakbpmjiaaGreat.Ax
def Ev.rv (x : Ev) : Re.Rv := ⟨(x.thr : Int), x.kd, (x.h : Int), x.k, x.a.e, (x.a.h : Int), (x.a.n : Int), (x.bg : Int), (x.en : Int), x.dn⟩
def logR (l : List Ev) : List Re.Rv := l.map Ev.rv
theorem logR_mem {l : List Ev} {x : Re.Rv} (h : x ∈ logR l) : ∃ (j : Nat) (ev : Ev), l[j]? = some ev ∧ x = ev.rv := by
 obtain ⟨ev, h1, rfl⟩ := List.mem_map.1 h
 obtain ⟨j, hj⟩ := List.mem_iff_getElem?.1 h1
 exact ⟨j, ev, hj, rfl⟩
theorem mem_logR {l : List Ev} {j : Nat} {ev : Ev} (h : l[j]? = some ev) : ev.rv ∈ logR l := List.mem_map.2 ⟨ev, List.mem_of_getElem? h, rfl⟩
theorem endEv_of {ev : Ev} (h : Re.endB ev.rv = true) : endEv ev := by
 unfold Re.endB Ev.rv at h
 simp only [Bool.and_eq_true, Bool.or_eq_true, beq_iff_eq] at h
 obtain ⟨h1, h2⟩ := h
 refine ⟨h1, ?_⟩
 rcases h2 with ⟨h2, h3⟩ | ⟨h2, h3⟩ | ⟨h2, h3⟩
 ·exact ⟨.c, h2, by unfold endA; omega⟩
 ·exact ⟨.a, h2, by unfold endA; omega⟩
 ·rcases h2 with h2 | h2
  ·exact ⟨.r, h2, by unfold endA; omega⟩
  ·exact ⟨.w, h2, by unfold endA; omega⟩
section
variable {c : Cfg} {s : Wd} {B : Nat → Nat}
theorem life_met (hl : LawI c s B) {l : List Re.Rv} (hs : ∀ x ∈ l, x ∈ logR s.evs) {a b : Nat} (hm : Mt s B a b) {A D : Re.Lf} (hA : Re.OfR l (a : Int) A.bg A.en) (hD : Re.OfR l (b : Int) D.bg D.en) : Re.metB A D = true := by
 have beg : ∀ {x : Nat} {bg : Int}, (bg = 0 ∨ ∃ y ∈ l, Re.begB (x : Int) y = true ∧ bg = y.bg) → bg ≤ (B x : Int) := by
  rintro x bg (rfl | ⟨y, h1, h2, rfl⟩)
  ·omega
  ·obtain ⟨j, ev, h3, rfl⟩ := logR_mem (hs _ h1)
   unfold Re.begB Ev.rv at h2
   simp only [Bool.and_eq_true, beq_iff_eq] at h2
   obtain ⟨k1, k2, k3, k4⟩ := h2
   have := hl.bg j ev h3 k2 k1 k3
   have e : ev.a.h = x := by omega
   rw [e] at this
   show (ev.bg : Int) ≤ _
   omega
 have fin : ∀ {x : Nat} {en : Int}, (en = 0 ∨ ∃ y ∈ l, y.h = (x : Int) ∧ Re.endB y = true ∧ en = y.en) → en ≠ 0 → ∃ (j : Nat) (ev : Ev), s.evs[j]? = some ev ∧ endEv ev ∧ ev.h = x ∧ en = (ev.en : Int) := by
  rintro x en (h | ⟨y, h1, h2, h3, rfl⟩) hne
  ·exact (hne h).elim
  ·obtain ⟨j, ev, h4, rfl⟩ := logR_mem (hs _ h1)
   refine ⟨j, ev, h4, endEv_of h3, ?_, rfl⟩
   have : (ev.h : Int) = (x : Int) := h2
   omega
 unfold Re.metB
 rw [Bool.and_eq_true]
 constructor
 ·by_cases e : A.en = 0
  ·simp [e]
  ·obtain ⟨j, ev, h1, h2, h3, h4⟩ := fin hA.2 e
   have h5 := (hm j ev h1 h2).1 h3
   have h6 := beg hD.1
   have h7 : ¬ A.en < D.bg := by omega
   simp [h7]
 ·by_cases e : D.en = 0
  ·simp [e]
  ·obtain ⟨j, ev, h1, h2, h3, h4⟩ := fin hD.2 e
   have h5 := (hm j ev h1 h2).2 h3
   have h6 := beg hA.1
   have h7 : A.bg ≤ D.en := by omega
   simp [h7]
theorem gd_in {l : List Re.Rv} {m : Nat} {kd : Int} {h κ : Nat} (hk : kd = 2 ∨ kd = 3) (hs : ∀ x ∈ logR s.evs, Re.untB (m : Int) x = true → x ∈ l) (g : Gd s m kd h κ) : Re.TikIn l (h : Int) ∧ ∀ r, Re.KeysOf l (h : Int) kd r → (κ : Int) ∈ r := by
 obtain ⟨j, ev, a1, a2, a3, a4, a5, a6, a7, _⟩ := g
 have hin : ev.rv ∈ l := by
  refine hs _ (mem_logR a1) ?_
  unfold Re.untB Ev.rv
  simp only [Bool.and_eq_true, bne_iff_ne, ne_eq, decide_eq_true_eq]
  omega
 refine ⟨⟨_, hin, ?_, by show (ev.h : Int) = _; rw [a3]⟩, fun r hr => (hr.1 _).2 ⟨_, hin, ?_, a4⟩⟩
 ·unfold Re.tikB Ev.rv
  simp only [Bool.and_eq_true, Bool.or_eq_true, bne_iff_ne, ne_eq, beq_iff_eq, a2]
  omega
 ·unfold Re.hitB Ev.rv
  simp only [Bool.and_eq_true, Bool.or_eq_true, bne_iff_ne, ne_eq, beq_iff_eq, Bool.not_eq_true']
  refine ⟨a2, by omega, by omega, ?_⟩
  cases hd : ev.dn with
  | false => exact .inl rfl
  | true => exact .inr (a7 hd)
theorem cf_in (hl : LawI c s B) {l : List Re.Rv} {m : Nat} (h1 : ∀ x ∈ l, x ∈ logR s.evs) (h2 : ∀ x ∈ logR s.evs, Re.untB (m : Int) x = true → x ∈ l) {a b : Nat} (g : Cf s m B a b) :
  (a : Int) ≠ (b : Int) ∧ Re.TikIn l (a : Int) ∧ Re.TikIn l (b : Int) ∧ ∀ A D, Re.LifeOf l (a : Int) A → Re.LifeOf l (b : Int) D → Re.cnfB A D = true := by
 obtain ⟨k1, _, _, k4, κ, k5, k6⟩ := g
 have i1 := gd_in (.inl rfl) h2 k5
 have i2 := gd_in (.inr rfl) h2 k6
 refine ⟨by omega, i1.1, i2.1, fun A D hA hD => ?_⟩
 unfold Re.cnfB
 rw [life_met hl h1 k4 hA.2.2 hD.2.2, Bool.true_and]
 exact (Re.comB_iff _ _).2 ⟨_, i1.2 _ hA.1, i2.2 _ hD.2.1⟩
theorem until_in (l : List Re.Rv) (m : Int) : (∀ x ∈ l.filter (Re.untB m), x ∈ l) ∧ ∀ x ∈ l, Re.untB m x = true → x ∈ l.filter (Re.untB m) :=
 ⟨fun x h => (List.mem_filter.1 h).1, fun x h1 h2 => List.mem_filter.2 ⟨h1, h2⟩⟩
theorem fail_told (hl : LawI c s B) {j : Nat} {ev : Ev} (hj : s.evs[j]? = some ev) (hd : ev.dn = true) (he : ev.a.e = 7) : Re.TripOf ((logR s.evs).filter (Re.untB (ev.en : Int))) (ev.h : Int) := by
 obtain ⟨x, p, y, h1, h2, h3⟩ := (hl.fin j ev hj hd).1 he
 obtain ⟨u1, u2⟩ := until_in (logR s.evs) (ev.en : Int)
 obtain ⟨a1, a2, a3, a4⟩ := cf_in hl u1 u2 h2
 obtain ⟨b1, b2, b3, b4⟩ := cf_in hl u1 u2 h3
 exact ⟨x, p, y, a2, a3, b3, fun e => a1 e.symm, b1, by omega, fun A P Y hA hP hY => ⟨a4 A P hA hP, b4 P Y hP hY⟩⟩
theorem clash_told (hl : LawI c s B) {j : Nat} {ev : Ev} (hj : s.evs[j]? = some ev) (hd : ev.dn = true) (he : ev.a.e = 8) : Re.RivalOf ((logR s.evs).filter (Re.untB (ev.en : Int))) (ev.h : Int) ev.k := by
 obtain ⟨κ, hk, a, h1, _, _, h4, h5⟩ := (hl.fin j ev hj hd).2 he
 obtain ⟨u1, u2⟩ := until_in (logR s.evs) (ev.en : Int)
 obtain ⟨g1, g2⟩ := gd_in (.inr rfl) u2 h5
 refine ⟨a, g1, by omega, fun A O hA hO => ⟨life_met hl u1 h4 hA.2.2 hO.2.2, ?_⟩⟩
 rw [Re.inB_iff, hk]
 exact g2 _ hA.2.1
theorem apart_told (hl : LawI c s B) (hA : Re.ApartOf (logR s.evs)) {j : Nat} {ev : Ev} (hj : s.evs[j]? = some ev) (hd : ev.dn = true) : ev.a.e ≠ 7 := by
 intro he
 obtain ⟨x, p, y, h1, h2, h3⟩ := (hl.fin j ev hj hd).1 he
 obtain ⟨a1, a2, a3, a4⟩ := cf_in (l := logR s.evs) hl (fun _ h => h) (fun _ h _ => h) h2
 obtain ⟨A, Y, k1, k2, k3⟩ := hA _ _ a2 a3 a1
 rw [a4 A Y k1 k2] at k3
 cases k3
end
theorem commit_told {c : Cfg} {s : Wd} (hr : c.right) (h : Reach c s) (hn : s.n < 1000000000) (hA : Re.ApartOf (logR s.evs)) {j : Nat} {ev : Ev} (hj : s.evs[j]? = some ev) (hd : ev.dn = true) (hk : ev.kd = 4) :
  ev.a.e = 0 ∨ ev.a.e = 2 ∨ ev.a.e = 3 ∨ ev.a.e = 4 ∨ (ev.a.e = 6 ∧ c.Q ≤ (s.evs.length : Int)) := by
 obtain ⟨B, hl⟩ := reach_law hr h hn
 have h1 := apart_told hl hA hj hd
 have h2 := ((reach_str hr h).fin j ev hj hd).2 .c hk
 have h3 := (reach_full hr h).2 j ev hj hd hk
 unfold ansOK at h2
 rcases h2 with e | e | e | e | e | e
 ·exact .inl e
 ·exact .inr (.inl e)
 ·exact .inr (.inr (.inl e))
 ·exact .inr (.inr (.inr (.inl e)))
 ·exact .inr (.inr (.inr (.inr ⟨e, h3 e⟩)))
 ·exact (h1 e).elim
end Go.Proofs.YtfinmiakbpmjiaaGreat.Um
namespace Go.Proofs.YtfinmiakbpmjiaaGreat.Um
open Go Go.RowKit Go.Proofs.YtfinmiakbpmjiaaGreat
open Go.Proofs.YtfinmiakbpmjiaaGreat.Ax (pt vi vu)
theorem evArr_log (l : List Ev) : evArr l = (logR l).flatMap Re.Rv.cs := by
 unfold evArr logR
 rw [List.flatMap_map]
 rfl
theorem logR_len (l : List Ev) : (logR l).length = l.length := by simp [logR]
theorem evs_of_own {w : World} {b : Nat} {e : TypeId} {v : Value} {l : List Re.Rv} (h : w.ownsRow b e 10 v l.length (l.flatMap Re.Rv.cs)) (hl : l.length < 10000) : Re.Evs w w.heap.size v l := by
 rcases h.2 with ⟨rfl, h0⟩ | ⟨g, cap, cur, rfl, hb, hg, hnc, _⟩
 ·exact ⟨none, 0, by rw [h0], by omega, hl, by rw [h0, List.eq_nil_of_length_eq_zero h0]; exact .none_⟩
 ·exact ⟨some ⟨g, 0, none⟩, cap, rfl, hnc, hl, Re.Reads.of_own h⟩
theorem info_70 : (Tryz.prog.info? 70).map (fun i => (i.zero, i.size, i.bytes)) = some (some (.agg #[(.int .i64 0), (.int .i64 0), (.int .u64 0), (.int .i64 0), (.int .i64 0), (.int .u64 0), (.int .u64 0), (.int .i64 0), (.int .i64 0), (.bool false)]), 10, 80) := by kernel_rfl
theorem eq_no_37 (a : Addr) (n c : Nat) (w : World) : (binOp .eql 37 (.slice (some a) n c) (.slice none 0 0)).run Tryz.prog w = .ok (.bool false) w := by kernel_rfl
theorem eq_yes_37 (w : World) : (binOp .eql 37 (.slice none 0 0) (.slice none 0 0)).run Tryz.prog w = .ok (.bool true) w := by kernel_rfl
set_option maxHeartbeats 2000000 in
theorem Clone_any {w : World} {v : Value} {l : List Re.Rv} (h : w.ownsRow 0 70 10 v l.length (l.flatMap Re.Rv.cs)) (hl : l.length < 9000) :
  Calls Tryz.prog 21 #[v] w fun e w' => ∃ v', e = .returned v' ∧ w'.ownsRow w.heap.size 70 10 v' l.length (l.flatMap Re.Rv.cs) ∧ Below w.heap.size w w' := by
 rcases h.2 with ⟨rfl, h0⟩ | ⟨g, cap, cur, rfl, hb, hg, hnc, hcm, hcs, hct⟩
 ·have hq := eq_yes_37 w
  go_enter Tryz.func21, Tryz.ntmps21
  go_wp2_with fail
  go_ret
  exact ⟨_, rfl, ⟨h.1, .inl ⟨rfl, h0⟩⟩, Below.refl _ _⟩
 ·obtain ⟨i0, hi, hz0, hz1, hz2⟩ := info_parts info_70
  have hq := eq_no_37 ⟨g, 0, none⟩ l.length cap w
  have hone : ∀ u ∈ l.flatMap Re.Rv.cs, u.oneCell' = true := by
   intro u hu
   obtain ⟨x, _, hx⟩ := List.mem_flatMap.1 hu
   simp [Re.Rv.cs] at hx
   rcases hx with rfl | rfl | rfl | rfl | rfl | rfl | rfl | rfl | rfl | rfl <;> rfl
  have hnews : ∀ (j : Nat) (u : Value), (l.flatMap Re.Rv.cs)[j]? = some u → (w.alloc (.cells #[] 70)).cell? ((⟨g, 0, none⟩ : Addr).add j) = some u := by
   intro j u hu
   have h1 : (w.alloc (.cells #[] 70)).heap[g]? = some (.cells cur 70 (0, 0)) := blk_alloc hg _
   have h2 : (⟨g, 0, none⟩ : Addr).add j = ⟨g, j, none⟩ := by unfold Addr.add; split <;> simp_all
   rw [h2, blk_cell h1]
   rw [← hct, List.getElem?_take] at hu
   split at hu
   ·simpa using hu
   ·cases hu
  have hown : (w.alloc (.cells #[] 70)).ownsRow w.heap.size 70 10 (.slice (some ⟨w.heap.size, 0, none⟩) 0 0) 0 [] := ⟨by simp, .inr ⟨w.heap.size, 0, #[], rfl, Nat.le_refl _, blk_new w _, Nat.le_refl _, Nat.zero_le _, by simp, by simp⟩⟩
  have HA := Lib.hid (And.intro hone (And.intro hnews (And.intro hown h.1)))
  have h63 : 0 + l.length ≤ maxLen := by simp [maxLen]; omega
  have hby : (0 + l.length) * 80 ≤ 140737488355328 := by omega
  clear h hb hg hnc hcm hcs hct hone hnews hown
  go_enter Tryz.func21, Tryz.ntmps21
  go_wp2_with (at_builtin; refine wpList_append_own_at _ rfl (.tmp 5) (.tmp 6) 37 rfl w.heap.size 70 i0 _ 10 80 Tryz.underlying37 hi hz0 hz1 hz2 rfl (by decide) (.slice (some ⟨w.heap.size, 0, none⟩) 0 0) 0 [] rfl HA.out.2.2.1 ⟨g, 0, none⟩ l.length cap (l.flatMap Re.Rv.cs) rfl HA.out.2.2.2 HA.out.2.1 HA.out.1 h63 hby (by simp) ?_; intro v' w1 hown1 hgr1 _ hat1; have H1 := Lib.hid (And.intro hown1 (And.intro hgr1 hat1)); clear hown1 hgr1 hat1)
  go_ret
  refine ⟨_, rfl, by simpa using H1.out.1, ?_⟩
  have hg1 := H1.out.2.1
  refine ⟨hg1.os, hg1.tape, hg1.output, Nat.le_trans (by simp) hg1.size, fun k hk => ?_⟩
  rw [hg1.block k (by simp; omega) (by simp [Value.ownBlock]; omega)]
  exact Below.heap_alloc w _ k hk
theorem Events_any {c : Cfg} {wd : Nat} {s : Wd} {w : World} {F : List Nat} (h : WorldAt c wd s w F) (hl : s.evs.length < 9000) :
  Calls Tryz.prog 8 #[.pointer (some ⟨wd, 0, none⟩)] w fun e w' => ∃ v', e = .returned v' ∧ w'.ownsRow w.heap.size 70 10 v' (logR s.evs).length ((logR s.evs).flatMap Re.Rv.cs) ∧ Below w.heap.size w w' := by
 obtain ⟨mb, wb, wk, capw, tb, wl, evv, F0, h⟩ := h
 have hev := h.evs
 rw [evArr_log, ← logR_len] at hev
 have hC := Clone_any hev (by rw [logR_len]; exact hl)
 have HC := Lib.hid hC
 have hb : w.cell? ⟨wd, 2, none⟩ = some evv := by
  obtain ⟨rest, hr, _⟩ := h.box
  have hr : w.heap[wd]? = some (.cells (#[pt mb, .slice (some ⟨wk, 0, none⟩) c.T.toNat capw, evv] ++ rest) 77 (0, 0)) := hr
  rw [blk_cell hr, Array.getElem?_append_left (by simp)]
  rfl
 clear hev hC h
 go_enter Tryz.func8, Tryz.ntmps8
 go_wp2_with fail
 refine HC.out.mono ?_
 rintro e w1 ⟨v', rfl, h1, h2⟩
 have H1 := Lib.hid (And.intro h1 h2)
 clear h1 h2
 go_wp2_with fail
 go_ret
 exact ⟨_, rfl, H1.out.1, H1.out.2⟩
theorem wpList_grow2 {P : Program} {ops : Array Oper} {rest : List Oper} {o : Oper} {a : Act} {Q : Exit → Act → World → Prop} {W : World} {o1 : Obj} (hgd : o.guard = none) (s x : Operand) (t : TypeId)
  (ho : o.op = .call { callee := .builtin .append, args := #[s, x], argTypes := #[t, t] }) (e : TypeId) (size bytes : Nat) (z : Value)
  (ht : P.underlying t = some (.slice e)) (hinfo : (P.info? e).map (fun i => (i.zero, i.size, i.bytes)) = some (some z, size, bytes)) (hzs : z.cells.size = size) (hsz : 0 < size) (hby : bytes ≤ 1000)
  {w0 : World} {v : Value} {n : Nat} {xs : List Value} (hf : Re.Fill w0 e size v n xs W) (hn : n < 1000000) (hs : a.eval s = v) (cs : List Value) (hl : cs.length = size) (h1 : ∀ u ∈ cs, u.oneCell' = true) (c : Nat) (hx : a.eval x = .slice (some ⟨W.heap.size + 1, 0, none⟩) 1 c)
  (h : ∀ g cap w', Re.Fill w0 e size (.slice (some ⟨g, 0, none⟩) (n + 1) cap) (n + 1) (xs ++ cs) w' → wpList P ops Q rest (a.put o.dst (.slice (some ⟨g, 0, none⟩) (n + 1) cap)) w') : wpList P ops Q (o :: rest) a ((W.alloc o1).alloc (.cells cs.toArray e)) :=
 Re.wpList_grow hgd s x t ho e size bytes z ht hinfo hzs hsz hby (hf.alloc o1) hn hs cs hl h1 c (by rw [hx]; simp) h
set_option maxHeartbeats 4000000 in
theorem Olds_any {v : Value} {l : List Re.Rv} {w : World} (hv : Re.Evs w w.heap.size v l) :
  Calls Tryz.prog 7 #[v] w fun e w' => ∃ v', e = .returned v' ∧ Re.Evs w' w'.heap.size v' l ∧ Below w.heap.size w w' := by
 obtain ⟨A, c, rfl, hc, hl, hr⟩ := hv
 have HR := Lib.hid hr
 clear hr
 go_enter Tryz.func7, Tryz.ntmps7
 go_wp2_with fail
 go_loopw [3,8] (fun o i wr => ∃ k : Nat, k ≤ l.length ∧ i = .int .i64 k ∧ Hid (Re.Fill w 44 10 o k ((l.take k).flatMap Re.Rv.cs) wr)) (fun _ i _ => l.length - (intOf i).toNat)
 case atStart => exact ⟨0, Nat.zero_le _, rfl, Lib.hid ⟨World.ownsRow_nil _ _ _ _, Below.refl _ _⟩⟩
 case round =>
  obtain ⟨k, hk, rfl, hF⟩ := hrel
  by_cases hlt : k < l.length
  ·obtain ⟨ad, rfl, hbl, c0, c1, c2, c3, c4, c5, c6, c7, c8, c9⟩ := Re.ev_at (HR.out.below hF.out.2) hlt
   have HL := Lib.hid hbl
   clear hbl
   go_wp2_with (at_builtin; refine wpList_grow2 rfl (.tmp 12) (.tmp 14) 35 rfl 44 10 80 _ Tryz.underlying35 Re.info_44 rfl (by decide) (by decide) hF.out (by omega) rfl (l[k].cs) rfl (by simp [Value.oneCell', Re.Rv.cs]) _ rfl ?_; intro g cap w1 hf1)
   go_roundw
   case rel => exact ⟨k + 1, by omega, by go_num, Lib.hid (by rw [List.take_succ_eq_append_getElem hlt, List.flatMap_append]; simpa using hf1)⟩
   case measure => simp [intOf] <;> omega
  ·have hkl : k = l.length := by omega
   have HKL := Lib.hid hkl
   clear hkl
   go_wp2_with fail
   go_ret
   have h2 := hF.out
   rw [HKL.out, List.take_length] at h2
   exact ⟨_, rfl, evs_of_own h2.1 hl, h2.2⟩
end Go.Proofs.YtfinmiakbpmjiaaGreat.Um
namespace Go.Proofs.YtfinmiakbpmjiaaGreat
open Go Go.RowKit
theorem Right_no (T S K L Q : Int) (w : World) (hQ : 0 ≤ Q) (h : ¬ RightC T S K L Q) : Calls Tryz.prog 82 #[.agg #[.int .i64 T, .int .i64 S, .int .i64 K, .int .i64 L, .int .u64 Q]] w fun e w' => e = .returned (.bool false) ∧ Below w.heap.size w w' := by
 have h1 := Right_core T S K L Q w
 rw [decide_eq_false] at h1
 ·exact h1
 ·rintro ⟨e1, e2, e3, e4, e5⟩
  refine h ⟨?_, ?_, ?_, ?_, ?_, ?_, ?_, ?_, hQ, ?_⟩
  all_goals (unfold toN at *; first | omega | (repeat' split at *) <;> omega)
set_option maxHeartbeats 1000000 in
theorem Len_yes (c : Cfg) (w : World) (hc : c.right) : Calls Tryz.prog 56 #[c.val] w fun e w' => e = .returned (.int .i64 c.len) ∧ Below w.heap.size w w' := by
 obtain ⟨T, S, K, L, Q⟩ := c
 have hc : RightC T S K L Q := hc
 have hR := fun w => Right_yes T S K L Q w hc
 obtain ⟨a1, a2, a3, a4, a5, a6, a7, a8, a9, a10⟩ := hc
 have hO := fun w => of_8 T S K L Q w a1 a2 a3 a4
 have HR := hid hR
 have HO := hid hO
 clear hR hO
 unfold Cfg.val Cfg.len
 simp only
 go_enter Tryz.func56, Tryz.ntmps56
 go_wp2_with (first | (go_at_call 82; refine (HR.out _).mono ?_; rintro e w1 ⟨rfl, hb1⟩; obtain ⟨hc1, hf1⟩ := bcell hb1) | (go_at_call 83; refine (HO.out _).mono ?_; rintro e w2 ⟨rfl, hb2⟩; obtain ⟨hc2, hf2⟩ := bcell hb2))
 go_ret
 exact ⟨rfl, below_alloc (below_then (below_then (below_alloc (Below.refl _ _) _) hb1) hb2) _⟩
set_option maxHeartbeats 1000000 in
theorem Len_no (c : Cfg) (w : World) (hQ : 0 ≤ c.Q) (hc : ¬ c.right) : Calls Tryz.prog 56 #[c.val] w fun e w' => e = .returned (.int .i64 0) ∧ Below w.heap.size w w' := by
 obtain ⟨T, S, K, L, Q⟩ := c
 have hR := fun w => Right_no T S K L Q w hQ hc
 have HR := hid hR
 clear hR hc
 unfold Cfg.val
 simp only
 go_enter Tryz.func56, Tryz.ntmps56
 go_wp2_with (first | (go_at_call 82; refine (HR.out _).mono ?_; rintro e w1 ⟨rfl, hb1⟩; obtain ⟨hc1, hf1⟩ := bcell hb1))
 go_ret
 exact ⟨rfl, below_then (below_alloc (Below.refl _ _) _) hb1⟩
set_option maxHeartbeats 1000000 in
theorem Of_no (c : Cfg) (a : Value) (w : World) (hQ : 0 ≤ c.Q) (hc : ¬ c.right) : Calls Tryz.prog 55 #[c.val, a] w fun e w' => e = .returned (.tuple #[.pointer none, .int .i64 1]) ∧ Below w.heap.size w w' := by
 have hL := fun w => Len_no c w hQ hc
 have HL := hid hL
 clear hL hc
 obtain ⟨T, S, K, L, Q⟩ := c
 unfold Cfg.val at *
 simp only at HL
 go_enter Tryz.func55, Tryz.ntmps55
 go_wp2_with (first | (go_at_call 56; refine (HL.out _).mono ?_; rintro e w1 ⟨rfl, hb1⟩; obtain ⟨hc1, hf1⟩ := bcell hb1))
 refine bodyPost_ret (results_tmp2 rfl _ _ _) rfl ?_
 exact ⟨rfl, below_then (below_alloc (Below.refl _ _) _) hb1⟩
theorem info_22 : ∃ i, Tryz.prog.info? 22 = some i ∧ i.zero = some (.int .u64 0) ∧ i.size = 1 ∧ i.bytes = 8 := by
  cases h : Tryz.prog.info? 22 with
  | none => exact absurd h (by have : (Tryz.prog.info? 22).isSome = true := by kernel_rfl
                               rw [Option.isSome_iff_exists] at this; obtain ⟨x, hx⟩ := this; rw [hx]; simp)
  | some i =>
    have h1 : ((Tryz.prog.info? 22).bind (·.zero)) = some (.int .u64 0) := by kernel_rfl
    have h2 : ((Tryz.prog.info? 22).map (·.size)) = some 1 := by kernel_rfl
    have h3 : ((Tryz.prog.info? 22).map (·.bytes)) = some 8 := by kernel_rfl
    rw [h] at h1 h2 h3
    exact ⟨i, rfl, h1, by simpa using h2, by simpa using h3⟩
theorem mk_u64 (N : Nat) (h : N ≤ 100) (W : World) : (Instr.makeSlice 78 (.int .i64 (N : Int)) (.int .i64 (N : Int))).run Tryz.prog W = .ok (.slice (some ⟨W.heap.size, 0, none⟩) N N) (W.alloc (.cells (madeCells #[.int .u64 0] N) 22)) := by
 obtain ⟨i, h1, h2, h3, h4⟩ := info_22
 have := run_make (P := Tryz.prog) W 78 22 i (.int .u64 0) (by kernel_rfl) h1 h2 .i64 .i64 N N (by omega) (by omega) (by rw [h4]; omega) (by omega)
 rw [this, h3]
 simp [Value.cells]
theorem made_splice (v : Value) (N : Nat) : ((madeCells #[v] N).toList.take 0 ++ List.replicate N v ++ (madeCells #[v] N).toList.drop (0 + (List.replicate N v).length)).toArray = madeCells #[v] N := by
 apply Array.ext'
 rw [toList_madeCells_one]
 simp
theorem made_get (v : Value) (N k : Nat) (h : k < N) : (madeCells #[v] N)[k]? = some v := by
 rw [← Array.getElem?_toList, toList_madeCells_one]
 simp [h]
set_option maxHeartbeats 2000000 in
theorem Of_yes (c : Cfg) (N sb : Nat) (w : World) (hc : c.right) (hN : c.len = (N : Int)) (hN2 : N ≤ 100) (hs : w.heap[sb]? = some (.cells (madeCells #[.int .u64 0] N) 22 (0, 0))) : Calls Tryz.prog 55 #[c.val, .slice (some ⟨sb, 0, none⟩) N N] w fun e w' => ∃ mb wb, e = .returned (.tuple #[.pointer (some ⟨mb, 0, none⟩), .int .i64 0]) ∧ MemAt w' mb wb c (fun _ => 0) 0 ∧ Below w.heap.size w w' ∧ w.heap.size ≤ mb ∧ w.heap.size ≤ wb := by
 have hL := fun w => Len_yes c w hc
 rw [hN] at hL
 have HL := hid hL
 have hn0 : ((N : Int) == 0) = false := by
  have : 0 < c.len := by
   obtain ⟨a1, a2, a3, a4, a5, a6, a7, a8, a9, a10⟩ := hc
   unfold Cfg.len; omega
  simp; omega
 have hmk := mk_u64 N hN2
 have HC := hid hc
 have HS := hid hs
 clear hL hc hs
 obtain ⟨T, S, K, L, Q⟩ := c
 unfold Cfg.val at *
 simp only at HL
 go_enter Tryz.func55, Tryz.ntmps55
 go_wp2_with (first | (go_at_call 56; refine (HL.out _).mono ?_; rintro e w1 ⟨rfl, hb1⟩; obtain ⟨hc1, hf1⟩ := bcell hb1))
 have b1 := blk_below (blk_new w (.cells #[.int .i64 T, .int .i64 S, .int .i64 K, .int .i64 L, .int .u64 Q] 24)) hb1
 have d0 := blk_cell b1 0
 have d1 := blk_cell b1 1
 have d2 := blk_cell b1 2
 have d3 := blk_cell b1 3
 have d4 := blk_cell b1 4
 have p1 := blk_alloc b1 (.cells (madeCells #[.int .u64 0] N) 22)
 have e0 := blk_cell p1 0
 have e1 := blk_cell p1 1
 have e2 := blk_cell p1 2
 have e3 := blk_cell p1 3
 have e4 := blk_cell p1 4
 simp at d0 d1 d2 d3 d4 e0 e1 e2 e3 e4
 go_region
 have HB : Below w.heap.size w ((w1.alloc (Obj.cells (madeCells #[.int .u64 0] N) 22)).alloc (Obj.cells #[.int .i64 T, .int .i64 S, .int .i64 K, .int .i64 L, .int .u64 Q, .slice (some { block := w1.heap.size, off := 0 }) N N, .int .i64 0, .int .i64 0, .int .i64 0, .int .u64 0, .int .u64 0, .bool false, .int .i64 0] 162)).drew :=
  below_drew (below_alloc (below_alloc (below_then (below_alloc (Below.refl _ _) _) hb1) _) _)
 have r1 := blk_drew (blk_new (w1.alloc (Obj.cells (madeCells #[.int .u64 0] N) 22)) (Obj.cells #[.int .i64 T, .int .i64 S, .int .i64 K, .int .i64 L, .int .u64 Q, .slice (some { block := w1.heap.size, off := 0 }) N N, .int .i64 0, .int .i64 0, .int .i64 0, .int .u64 0, .int .u64 0, .bool false, .int .i64 0] 162))
 have r2 := blk_drew (blk_alloc (blk_new w1 (Obj.cells (madeCells #[.int .u64 0] N) 22)) (Obj.cells #[.int .i64 T, .int .i64 S, .int .i64 K, .int .i64 L, .int .u64 Q, .slice (some { block := w1.heap.size, off := 0 }) N N, .int .i64 0, .int .i64 0, .int .i64 0, .int .u64 0, .int .u64 0, .bool false, .int .i64 0] 162))
 have r3 := blk_below HS HB
 have hle : w.heap.size ≤ w1.heap.size := by have := hb1.size; simp at this; omega
 have hlt := blk_lt HS
 rw [show (w1.alloc (Obj.cells (madeCells #[.int .u64 0] N) 22)).heap.size = w1.heap.size + 1 by simp] at r1
 generalize ((w1.alloc (Obj.cells (madeCells #[.int .u64 0] N) 22)).alloc (Obj.cells #[.int .i64 T, .int .i64 S, .int .i64 K, .int .i64 L, .int .u64 Q, .slice (some { block := w1.heap.size, off := 0 }) N N, .int .i64 0, .int .i64 0, .int .i64 0, .int .u64 0, .int .u64 0, .bool false, .int .i64 0] 162)).drew = W3 at *
 generalize w1.heap.size = m1 at *
 clear hb1 hc1 hf1 d0 d1 d2 d3 d4 e0 e1 e2 e3 e4 b1 p1
 have m5 := blk_cell r1 5
 simp at m5
 have HR1 := hid r1
 have HR2 := hid r2
 have HR3 := hid r3
 have hcp := run_copy_row (P := Tryz.prog) W3 78 78 3 22 m1 0 N N ⟨sb, 0, none⟩ N N (madeCells #[.int .u64 0] N) 22 (List.replicate N (.int .u64 0)) (by kernel_rfl) (by kernel_rfl) r2 (by simp)
  (by
   intro j v hj
   rw [List.getElem?_replicate] at hj
   split at hj
   ·next hjN =>
    simp only [Option.some.injEq] at hj; subst hj
    rw [show (Addr.add ⟨sb, 0, none⟩ j) = ⟨sb, j, none⟩ by simp [Addr.add]; omega]
    exact (blk_cell r3 j).trans (made_get _ _ _ hjN)
   ·simp at hj)
  (by rw [size_madeCells]; simp) (by intro v hv; rw [(List.mem_replicate.mp hv).2]; rfl)
 rw [made_splice, List.length_replicate] at hcp
 have z1 : (W3.setRow m1 (madeCells #[.int .u64 0] N)).heap[m1]? = _ := setRow_heap W3 m1 _ (madeCells #[.int .u64 0] N) 22 _ r2
 have z2 : (W3.setRow m1 (madeCells #[.int .u64 0] N)).heap[m1 + 1]? = _ := (setRow_other W3 m1 (m1 + 1) _ (by omega)).trans r1
 have HB2 : Below w.heap.size w (W3.setRow m1 (madeCells #[.int .u64 0] N)) := below_setRow HB hle _
 generalize W3.setRow m1 (madeCells #[.int .u64 0] N) = W4 at *
 clear r1 r2 r3
 unfold goInt at hcp
 have Z1 := hid z1
 have Z2 := hid z2
 clear z1 z2
 go_wp2_with fail
 refine bodyPost_ret (results_tmp2 rfl _ _ _) rfl ?_
 refine ⟨m1 + 1, m1, rfl, ⟨HC.out, by omega, ⟨0, 0, 0, 0, 0, false, ?_⟩, madeCells #[.int .u64 0] N, Z1.out, ?_, ?_⟩, HB2, by omega, hle⟩
 ·have := Z2.out
  unfold memV
  rw [hN]
  exact this
 ·rw [size_madeCells, hN]; rfl
 ·intro s hs
  obtain ⟨q1, q2⟩ := Spot.at_bd HC.out hs
  rw [hN] at q2
  exact made_get _ _ _ (by omega)
set_option maxHeartbeats 2000000 in
theorem New_no (c : Cfg) (w : World) (hQ : 0 ≤ c.Q) (hc : ¬ c.right) : Calls Tryz.prog 31 #[c.val] w fun e w' => e = .returned (.tuple #[.pointer none, .int .i64 1]) ∧ Below w.heap.size w w' := by
 have hL := fun w => Len_no c w hQ hc
 have hO := fun a w => Of_no c a w hQ hc
 have HL := hid hL
 have HO := hid hO
 have hmk := mk_u64 0 (by omega)
 clear hL hc hO
 obtain ⟨T, S, K, L, Q⟩ := c
 unfold Cfg.val at *
 simp only at HL HO
 have hmk : ∀ W : World, (Instr.makeSlice 78 (.int .i64 0) (.int .i64 0)).run Tryz.prog W = .ok (.slice (some ⟨W.heap.size, 0, none⟩) 0 0) (W.alloc (.cells (madeCells #[.int .u64 0] 0) 22)) := hmk
 go_enter Tryz.func31, Tryz.ntmps31
 go_wp2_with fail
 have b1 := blk_new w (.cells #[.int .i64 T, .int .i64 S, .int .i64 K, .int .i64 L, .int .u64 Q] 24)
 have hB := below_alloc (Below.refl w.heap.size w) (.cells #[.int .i64 T, .int .i64 S, .int .i64 K, .int .i64 L, .int .u64 Q] 24)
 generalize w.alloc (.cells #[.int .i64 T, .int .i64 S, .int .i64 K, .int .i64 L, .int .u64 Q] 24) = W at *
 have d0 := blk_cell b1 0
 have d1 := blk_cell b1 1
 have d2 := blk_cell b1 2
 have d3 := blk_cell b1 3
 have d4 := blk_cell b1 4
 simp at d0 d1 d2 d3 d4
 go_region_with (first | (go_at_call 56; refine (HL.out _).mono ?_; rintro e w1 ⟨rfl, hb1⟩; have q1 := blk_below (blk_drew b1) hb1; have q2 := blk_alloc q1 (.cells (madeCells #[.int .u64 0] 0) 22); have f0 := blk_cell q1 0; have f1 := blk_cell q1 1; have f2 := blk_cell q1 2; have f3 := blk_cell q1 3; have f4 := blk_cell q1 4; have g0 := blk_cell q2 0; have g1 := blk_cell q2 1; have g2 := blk_cell q2 2; have g3 := blk_cell q2 3; have g4 := blk_cell q2 4; simp at f0 f1 f2 f3 f4 g0 g1 g2 g3 g4) | (go_at_call 55; refine (HO.out _ _).mono ?_; rintro e w2 ⟨rfl, hb2⟩))
 all_goals (
  go_wp2_with fail
  refine bodyPost_ret (results_tmp2 rfl _ _ _) rfl ?_
  exact ⟨rfl, below_then (below_alloc (below_then (below_drew hB) hb1) _) hb2⟩)
set_option maxHeartbeats 2000000 in
theorem New_yes (c : Cfg) (w : World) (hc : c.right) : Calls Tryz.prog 31 #[c.val] w fun e w' => ∃ mb wb, e = .returned (.tuple #[.pointer (some ⟨mb, 0, none⟩), .int .i64 0]) ∧ MemAt w' mb wb c (fun _ => 0) 0 ∧ Below w.heap.size w w' ∧ w.heap.size ≤ mb ∧ w.heap.size ≤ wb := by
 obtain ⟨N, hN, hN2⟩ : ∃ N : Nat, c.len = (N : Int) ∧ N ≤ 100 := by
  obtain ⟨a1, a2, a3, a4, a5, a6, a7, a8, a9, a10⟩ := hc
  refine ⟨c.len.toNat, ?_, ?_⟩ <;> unfold Cfg.len <;> omega
 have hL := fun w => Len_yes c w hc
 rw [hN] at hL
 have hO := fun sb w h => Of_yes c N sb w hc hN hN2 h
 have HL := hid hL
 have HO := hid hO
 have hmk := mk_u64 N hN2
 clear hL hc hO hN
 obtain ⟨T, S, K, L, Q⟩ := c
 unfold Cfg.val at *
 simp only at HL HO
 go_enter Tryz.func31, Tryz.ntmps31
 go_wp2_with fail
 have b1 := blk_new w (.cells #[.int .i64 T, .int .i64 S, .int .i64 K, .int .i64 L, .int .u64 Q] 24)
 have hB := below_alloc (Below.refl w.heap.size w) (.cells #[.int .i64 T, .int .i64 S, .int .i64 K, .int .i64 L, .int .u64 Q] 24)
 generalize w.alloc (.cells #[.int .i64 T, .int .i64 S, .int .i64 K, .int .i64 L, .int .u64 Q] 24) = W at *
 have d0 := blk_cell b1 0
 have d1 := blk_cell b1 1
 have d2 := blk_cell b1 2
 have d3 := blk_cell b1 3
 have d4 := blk_cell b1 4
 simp at d0 d1 d2 d3 d4
 go_region_with (first | (go_at_call 56; refine (HL.out _).mono ?_; rintro e w1 ⟨rfl, hb1⟩; have q1 := blk_below (blk_drew b1) hb1; have q2 := blk_alloc q1 (.cells (madeCells #[.int .u64 0] N) 22); have f0 := blk_cell q1 0; have f1 := blk_cell q1 1; have f2 := blk_cell q1 2; have f3 := blk_cell q1 3; have f4 := blk_cell q1 4; have g0 := blk_cell q2 0; have g1 := blk_cell q2 1; have g2 := blk_cell q2 2; have g3 := blk_cell q2 3; have g4 := blk_cell q2 4; simp at f0 f1 f2 f3 f4 g0 g1 g2 g3 g4) | (go_at_call 55; refine (HO.out _ _ (blk_new _ _)).mono ?_; rintro e w2 ⟨mb, wb, rfl, hM2, hb2, hl1, hl2⟩))
 all_goals (
  go_wp2_with fail
  refine bodyPost_ret (results_tmp2 rfl _ _ _) rfl ?_
  have hs := (below_alloc (below_then (below_drew hB) hb1) (.cells (madeCells #[.int .u64 0] N) 22)).size
  exact ⟨mb, wb, rfl, hM2, below_then (below_alloc (below_then (below_drew hB) hb1) _) hb2, by omega, by omega⟩)
end Go.Proofs.YtfinmiakbpmjiaaGreat
namespace Go.Proofs.YtfinmiakbpmjiaaGreat.Um
open Go Go.RowKit Go.Proofs.YtfinmiakbpmjiaaGreat Go.Proofs.YtfinmiakbpmjiaaGreat.Ax
def thV (c : Cfg) (id : Int) : Array Value := #[vi c.T, vi c.S, vi c.K, vi c.L, .int .u64 c.Q, vi id, .nilFunc, .pointer none, .nilIface, vi 0, vu 0, vu 0]
def cfV (c : Cfg) : Array Value := #[vi c.T, vi c.S, vi c.K, vi c.L, .int .u64 c.Q]
theorem ThNew_any (c : Cfg) (id : Int) (w : World) : Calls Tryz.prog 32 #[c.val, vi id] w fun e w' => e = .returned (pt (w.heap.size + 1)) ∧ w' = (w.alloc (.cells (cfV c) 24)).alloc (.cells (thV c id) 124) := by
 obtain ⟨T, S, K, L, Q⟩ := c
 unfold Cfg.val thV cfV vi vu pt
 simp only
 go_enter Tryz.func32, Tryz.ntmps32
 go_wp2
 go_ret
 exact ⟨rfl, rfl⟩
theorem row_more {P : Program} {w0 W : World} {v : Value} {n : Nat} {xs : List Value} (t e : TypeId) (size bytes : Nat) (z : Value) (ht : P.underlying t = some (.slice e)) (hinfo : (P.info? e).map (fun i => (i.zero, i.size, i.bytes)) = some (some z, size, bytes)) (hzs : z.cells.size = size) (hsz : 0 < size) (hby : bytes ≤ 1000)
  (hf : Re.Fill w0 e size v n xs W) (hn : n < 1000000) (cs : List Value) (hl : cs.length = size) (h1 : ∀ u ∈ cs, u.oneCell' = true) :
  ∃ g cap w3, (Builtin.append_ #[t, t] t #[v, .slice (some ⟨W.heap.size, 0, none⟩) 1 1]).run P (W.alloc (.cells cs.toArray e)) = .ok (.slice (some ⟨g, 0, none⟩) (n + 1) cap) w3 ∧ Re.Fill w0 e size (.slice (some ⟨g, 0, none⟩) (n + 1) cap) (n + 1) (xs ++ cs) w3 ∧ Only v.ownBlock.toList W w3 ∧ (v.ownBlock = some g ∨ W.heap.size < g) := by
 obtain ⟨i0, hi, hz0, hz1, hz2⟩ := info_parts hinfo
 have hbs : w0.heap.size ≤ W.heap.size := hf.2.size
 have hby2 : (n + 1) * bytes ≤ 1000000 * 1000 := Nat.mul_le_mul (by omega) hby
 obtain ⟨g, cap, w3, hr, hown, hgrow, hat, hlt⟩ := run_append_lies (P := P) (W.alloc (.cells cs.toArray e)) t t w0.heap.size e i0 z size bytes ht hi hz0 hz1 hz2 hzs hsz v n xs (hf.1.alloc _) ⟨W.heap.size, 0, none⟩ 1 1 cs (by omega) (fun j u hu => World.news_of_block (cs := cs.toArray) (heap_alloc_new W _) j u (by simpa using hu)) h1
  (by decide) (by simp only [maxLen]; omega) (by omega) (by simp; omega) _ rfl
 refine ⟨g, cap, w3, hr, ⟨hown, (below_alloc hf.2 _).grown hgrow (by simp; omega) (fun k hk => Re.own_base hf.1 k hk)⟩, ⟨hgrow.os, hgrow.tape, hgrow.output, by have := hgrow.size; simp at this; omega, fun k hk hnm => ?_⟩, hat.imp id fun e => by rw [e]; simp⟩
 rw [hgrow.block k (by simp; omega) (fun e => hnm (by simp [← e]))]
 exact Below.heap_alloc W _ k hk
structure NAt (c : Cfg) (wd mb wb cb j : Nat) (tb : Nat → Nat) (wl : List (Nat × Nat)) (v : Value) (F0 : List Nat) (w0 w : World) : Prop where
 wi : WI c mb wb j tb ⟨fun _ => 0, 0, fun _ => .idle ⟨0, 0, 0⟩⟩ w F0
 box : w.heap[wd]? = some (.cells #[pt mb, v, .slice none 0 0] 77 (0, 0))
 cbx : w.heap[cb]? = some (.cells (cfV c) 24 (0, 0))
 row : Re.Fill w0 94 2 v j (wl.flatMap wkC) w
 wlen : wl.length = j
 wat : ∀ i, i < j → wl[i]? = some (tb i, 0)
 far : wd ∉ F0 ∧ cb ∉ F0 ∧ ∀ g, v.ownBlock = some g → g ∉ F0
 lt : ∀ b ∈ F0, b < w.heap.size ∧ w0.heap.size ≤ b
 new : w0.heap.size ≤ wd
theorem own_94 {w : World} {B size n : Nat} {e : TypeId} {v : Value} {xs : List Value} (h : w.ownsRow B e size v n xs) {g : Nat} (hg : v.ownBlock = some g) : ∃ cur, w.heap[g]? = some (.cells cur e (0, 0)) := by
 rcases h.2 with ⟨rfl, _⟩ | ⟨g', cap, cur, rfl, _, h5, _⟩
 ·simp [Value.ownBlock] at hg
 ·have : g' = g := by simpa [Value.ownBlock] using hg
  subst this
  exact ⟨_, h5⟩
theorem nat_next {c : Cfg} {wd mb wb cb j : Nat} {tb : Nat → Nat} {wl : List (Nat × Nat)} {v : Value} {F0 : List Nat} {w0 wr w1 w3 : World} (h : NAt c wd mb wb cb j tb wl v F0 w0 wr)
  (e1 : w1 = (wr.alloc (.cells (cfV c) 24)).alloc (.cells (thV c (j : Int)) 124)) {g cap : Nat} (hf : Re.Fill w0 94 2 (.slice (some ⟨g, 0, none⟩) (j + 1) cap) (j + 1) (wl.flatMap wkC ++ [pt (wr.heap.size + 1), vi 0]) w3) (ho : Only v.ownBlock.toList w1 w3) (hat : v.ownBlock = some g ∨ w1.heap.size < g) :
  NAt c wd mb wb cb (j + 1) (fun i => if i = j then wr.heap.size + 1 else tb i) (wl ++ [(wr.heap.size + 1, 0)]) (.slice (some ⟨g, 0, none⟩) (j + 1) cap) ((wr.heap.size + 1) :: F0) w0 (w3.setCell ⟨wd, 1, none⟩ (.slice (some ⟨g, 0, none⟩) (j + 1) cap)) := by
 have hs1 : w1.heap.size = wr.heap.size + 2 := by rw [e1]; simp
 have hw1 : Only [] wr w1 := by rw [e1]; exact (only_alloc wr _).trans (only_alloc _ _)
 have hth : w1.heap[wr.heap.size + 1]? = some (.cells (thV c (j : Int)) 124 (0, 0)) := by rw [e1]; exact blk_new2 _ _ _
 have hgw : ∀ b, v.ownBlock = some b → b ≠ wd ∧ b ≠ cb ∧ b < wr.heap.size ∧ b ∉ F0 := by
  intro b hb
  obtain ⟨cur, h1⟩ := own_94 h.row.1 hb
  refine ⟨fun e => ?_, fun e => ?_, blk_lt h1, h.far.2.2 b hb⟩
  ·subst e; rw [h.box] at h1; cases h1
  ·subst e; rw [h.cbx] at h1; cases h1
 have hwdlt := blk_lt h.box
 have hcblt := blk_lt h.cbx
 have hwc : wd ≠ cb := by
  intro e; subst e
  have := h.box.symm.trans h.cbx
  cases this
 have hg3 : g ≠ wd ∧ g ≠ cb ∧ g ∉ F0 ∧ g ≠ wr.heap.size + 1 := by
  rcases hat with h1 | h1
  ·obtain ⟨k1, k2, k3, k4⟩ := hgw g h1
   exact ⟨k1, k2, k4, by omega⟩
  ·exact ⟨by omega, by omega, fun hm => by have := (h.lt g hm).1; omega, by omega⟩
 have hO : Only (wd :: v.ownBlock.toList) wr (w3.setCell ⟨wd, 1, none⟩ (.slice (some ⟨g, 0, none⟩) (j + 1) cap)) := (((hw1.wide (by simp)).trans (ho.wide (fun x hx => List.mem_cons_of_mem _ hx))).set wd 1 _ (.inl (by simp)))
 have hOt : Only (wd :: v.ownBlock.toList) w1 (w3.setCell ⟨wd, 1, none⟩ (.slice (some ⟨g, 0, none⟩) (j + 1) cap)) := ((ho.wide (fun x hx => List.mem_cons_of_mem _ hx)).set wd 1 _ (.inl (by simp)))
 have hnot : ∀ b, b ≠ wd → (∀ x, v.ownBlock = some x → x ≠ b) → b ∉ wd :: v.ownBlock.toList := by
  intro b h1 h2 hm
  rcases List.mem_cons.1 hm with h3 | h3
  ·exact h1 h3
  ·exact h2 b (by simpa using h3) rfl
 have hF : ∀ b ∈ F0, b ∉ wd :: v.ownBlock.toList := fun b hb => hnot b (fun e => h.far.1 (e ▸ hb)) fun x hx e => h.far.2.2 x hx (e ▸ hb)
 have hth2 := hOt.blk (g := wr.heap.size + 1) (hnot _ (by omega) fun x hx e => by have := (hgw x hx).2.2.1; omega) hth
 have hcb2 := hO.blk (hnot cb (fun e => hwc e.symm) fun x hx e => (hgw x hx).2.1 e) h.cbx
 have hbx3 := ho.blk (g := wd) (o := .cells #[pt mb, v, .slice none 0 0] 77 (0, 0)) (by
  intro hm
  exact (hgw wd (by simpa using hm)).1 rfl) (hw1.blk (by simp) h.box)
 have hwi := h.wi.stable hO hF
 obtain ⟨hm1, hm2, hm3, B, hB⟩ := hwi
 refine ⟨⟨hm1, List.mem_cons_of_mem _ hm2, List.mem_cons_of_mem _ hm3, fun i => if i = j then [thB c (wr.heap.size + 1) (j : Int) .nilFunc (.pointer none) .nilIface (vi 0) (vu 0) (vu 0)] else B i, ?_⟩, ?_, hcb2, ?_, ?_, ?_, ?_, ?_, h.new⟩
 ·have hmt : mb ≠ wr.heap.size + 1 ∧ wb ≠ wr.heap.size + 1 := ⟨fun e => by have := (h.lt mb hm2).1; omega, fun e => by have := (h.lt wb hm3).1; omega⟩
  refine ⟨fun k hk => ?_, fun k hk => ?_, fun i k hi hk hik x hx y hy => ?_, fun k hk x hx => ?_⟩
  ·by_cases e : k = j
   ·subst e
    simp only [if_pos]
    exact ⟨_, _, [], rfl⟩
   ·simp only [if_neg e]
    exact hB.form k (by omega)
  ·by_cases e : k = j
   ·subst e
    simp only [if_pos]
    refine ⟨by simp, fun x hx => ?_⟩
    rw [List.mem_singleton] at hx
    subst hx
    exact ⟨#[], by simpa [thB, Cells.arr, thV] using hth2, trivial⟩
   ·simp only [if_neg e]
    exact hB.has k (by omega)
  ·by_cases e : i = j
   ·have e2 : k ≠ j := fun h => hik (e.trans h.symm)
    simp only [if_pos e, List.mem_singleton] at hx
    simp only [if_neg e2] at hy
    subst hx
    intro he
    have := (h.lt _ ((hB.mem k (by omega) y hy).2.2)).1
    simp only [thB] at he
    omega
   ·by_cases e2 : k = j
    ·simp only [if_pos e2, List.mem_singleton] at hy
     simp only [if_neg e] at hx
     subst hy
     intro he
     have := (h.lt _ ((hB.mem i (by omega) x hx).2.2)).1
     simp only [thB] at he
     omega
    ·simp only [if_neg e] at hx
     simp only [if_neg e2] at hy
     exact hB.far i k (by omega) (by omega) hik x hx y hy
  ·by_cases e : k = j
   ·simp only [if_pos e, List.mem_singleton] at hx
    subst hx
    exact ⟨fun h => hmt.1 h.symm, fun h => hmt.2 h.symm, by simp [thB]⟩
   ·simp only [if_neg e] at hx
    obtain ⟨k1, k2, k3⟩ := hB.mem k (by omega) x hx
    exact ⟨k1, k2, List.mem_cons_of_mem _ k3⟩
 ·exact blk_put hbx3 1 _ rfl
 ·rw [List.flatMap_append]
  refine ⟨?_, ?_⟩
  ·refine row_keep (w := w3) hf.1 fun x hx => ?_
   have : g = x := by simpa [Value.ownBlock] using hx
   subst this
   exact Below.heap_setCell _ _ _ _ (by simpa using hg3.1)
  ·exact below_set hf.2 h.new _
 ·simp [h.wlen]
 ·intro i hi
  by_cases e : i = j
  ·subst e
   rw [← h.wlen, List.getElem?_concat_length]
   simp [h.wlen]
  ·rw [List.getElem?_append_left (by rw [h.wlen]; omega), h.wat i (by omega)]
   simp [e]
 ·refine ⟨fun hm => ?_, fun hm => ?_, fun x hx => ?_⟩
  ·rcases List.mem_cons.1 hm with h1 | h1
   ·omega
   ·exact h.far.1 h1
  ·rcases List.mem_cons.1 hm with h1 | h1
   ·omega
   ·exact h.far.2.1 h1
  ·have : g = x := by simpa [Value.ownBlock] using hx
   subst this
   intro hm
   rcases List.mem_cons.1 hm with h1 | h1
   ·exact hg3.2.2.2 h1
   ·exact hg3.2.2.1 h1
 ·have hsz := hO.size
  have hs3 := hOt.size
  intro b hb
  rcases List.mem_cons.1 hb with rfl | hb
  ·exact ⟨by omega, by have := h.row.2.size; omega⟩
  ·obtain ⟨k1, k2⟩ := h.lt b hb
   exact ⟨by omega, k2⟩
theorem info_94 : (Tryz.prog.info? 94).map (fun i => (i.zero, i.size, i.bytes)) = some (some (.agg #[.pointer none, .int .i64 0]), 2, 16) := by kernel_rfl
theorem nat_start {c : Cfg} {mb wb : Nat} {w w1 : World} (hM : MemAt w1 mb wb c (fun _ => 0) 0) (hb : Below w.heap.size w w1) (h1 : w.heap.size < mb) (h2 : w.heap.size < wb) (hc : w1.heap[w.heap.size]? = some (.cells (cfV c) 24 (0, 0))) :
  NAt c w1.heap.size mb wb w.heap.size 0 (fun _ => 0) [] (.slice none 0 0) [mb, wb] w (w1.alloc (.cells #[pt mb, .slice none 0 0, .slice none 0 0] 77)) := by
 have hm := hM
 obtain ⟨hr, hne, ⟨a, b, d, o, n, e, hbx⟩, ws, hws, -⟩ := hm
 have l1 := blk_lt hbx
 have l2 := blk_lt hws
 have l3 := blk_lt hc
 have ho : Only [] w1 (w1.alloc (.cells #[pt mb, .slice none 0 0, .slice none 0 0] 77)) := only_alloc w1 _
 refine ⟨⟨hM.keep ho (by simp) (by simp), by simp, by simp, fun _ => [], ⟨fun k hk => by omega, fun k hk => by omega, fun i k hi => by omega, fun k hk => by omega⟩⟩, blk_new _ _, blk_alloc hc _, ⟨⟨rfl, .inl ⟨rfl, rfl⟩⟩, below_alloc hb _⟩, rfl, fun i hi => by omega, ⟨?_, ?_, fun g hg => by simp [Value.ownBlock] at hg⟩, ?_, hb.size⟩
 ·simp; omega
 ·simp; omega
 ·intro b hb
  simp at hb
  rcases hb with rfl | rfl <;> simp <;> omega
theorem nat_end {c : Cfg} {wd mb wb cb N : Nat} {tb : Nat → Nat} {wl : List (Nat × Nat)} {v : Value} {F0 : List Nat} {w0 w : World} (h : NAt c wd mb wb cb N tb wl v F0 w0 w) (hN : c.T.toNat = N) (h0 : 0 < N) :
  ∃ F, WorldAt c wd Um.w0 w F ∧ ∀ b ∈ F, w0.heap.size ≤ b := by
 obtain ⟨g, cap, rfl, hg1, hg2⟩ := h.row.1.form h0
 rcases h.row.1.2 with ⟨h1, _⟩ | ⟨g', cap', cur, h1, h4, h5, h6, h7⟩
 ·cases h1
 ·cases h1
  refine ⟨_, ⟨mb, wb, g, cap, tb, wl, .slice none 0 0, F0, ⟨by rw [hN]; exact h.wi, ⟨#[], by rw [hN]; exact h.box, trivial⟩, ?_, by rw [hN]; exact h.wlen, fun j hj => h.wat j (by rw [← hN]; exact hj), ⟨rfl, .inl ⟨rfl, rfl⟩⟩, ⟨?_, h.far.1, h.far.2.2 g (by simp [Value.ownBlock]), fun g' hg' => by simp [Value.ownBlock] at hg'⟩, rfl, fun b hb => (h.lt b hb).1⟩⟩, ?_⟩
  ·refine ⟨(cur.toList.drop (N * 2)).toArray, ?_⟩
   rw [h5, ← h7.2.2]
   simp
  ·intro e
   have k1 := h.box
   rw [e, h5] at k1
   cases k1
  ·intro b hb
   simp only [List.mem_cons, Value.ownBlock, Option.toList, List.nil_append] at hb
   rcases hb with rfl | rfl | hb
   ·exact h.new
   ·exact hg1
   ·exact (h.lt b hb).2
theorem step_append_run {P : Program} {ops : Array Oper} {o : Oper} {a : Act} {w : World} {K : Act → World → Prop} {Q : Exit → Act → World → Prop} {E : Prop}
  (hg : o.guard = none) (s x : Operand) (t : TypeId) (hop : o.op = Op.call { callee := Callee.builtin Builtin.append, args := #[s, x], argTypes := #[t, t] })
  {v u v' : Value} {w' : World} (hrun : (Builtin.append_ #[t, t] o.type #[v, u]).run P w = .ok v' w') (hs : a.eval s = v) (hx : a.eval x = u) (hK : K (a.put o.dst v') w') :
  if Region.wanted o (yielded ops a.tmps) = true then Oper.wp P o a w K Q else E := by
 have hw : Region.wanted o (yielded ops a.tmps) = true := by simp [Region.wanted, hg]
 rw [if_pos hw]
 unfold Oper.wp
 simp [execOp, hop, resolve, invoke, builtin, hs, hx, hrun, Result.andThen]
 exact hK
theorem nat_round {c : Cfg} {wd mb wb cb j : Nat} {tb : Nat → Nat} {wl : List (Nat × Nat)} {v : Value} {F0 : List Nat} {w0 wr w1 : World} {tn : Nat} (h : NAt c wd mb wb cb j tb wl v F0 w0 wr) (hj : j < 1000)
  (e1 : w1 = (wr.drew.alloc (.cells (cfV c) 24)).alloc (.cells (thV c (j : Int)) 124)) (et : tn = wr.heap.size + 1) :
  w1.cell? ⟨wd, 1, none⟩ = some v ∧ (w1.alloc (.cells #[.pointer (some ⟨tn, 0, none⟩), .int .i64 0] 94)).cell? ⟨wd, 1, none⟩ = some v ∧
  ∃ g cap w3 tb' wl' F', (Builtin.append_ #[75,75] 75 #[v, .slice (some ⟨w1.heap.size, 0, none⟩) 1 1]).run Tryz.prog (w1.alloc (.cells #[.pointer (some ⟨tn, 0, none⟩), .int .i64 0] 94)) = .ok (.slice (some ⟨g, 0, none⟩) (j + 1) cap) w3 ∧
   w3.cell? ⟨wd, 1, none⟩ = some v ∧ w3.frozen? ⟨wd, 1, none⟩ = false ∧ Hid (NAt c wd mb wb cb (j + 1) tb' wl' (.slice (some ⟨g, 0, none⟩) (j + 1) cap) F' w0 (w3.setCell ⟨wd, 1, none⟩ (.slice (some ⟨g, 0, none⟩) (j + 1) cap))) := by
 have hd : Only [] wr wr.drew := .of (below_drew (Below.refl _ _))
 have h' : NAt c wd mb wb cb j tb wl v F0 w0 wr.drew := ⟨h.wi.stable hd (by simp), h.box, h.cbx, ⟨row_keep h.row.1 fun _ _ => rfl, below_drew h.row.2⟩, h.wlen, h.wat, h.far, h.lt, h.new⟩
 have hw1 : Only [] wr.drew w1 := by rw [e1]; exact (only_alloc _ _).trans (only_alloc _ _)
 have hf1 : Re.Fill w0 94 2 v j (wl.flatMap wkC) w1 := by rw [e1]; exact (h'.row.alloc _).alloc _
 have hb1 := hw1.blk (by simp) h'.box
 obtain ⟨g, cap, w3, hr, hf3, ho, hat⟩ := row_more (P := Tryz.prog) 75 94 2 16 _ Tryz.underlying75 info_94 rfl (by decide) (by decide) hf1 (by omega) [pt tn, vi 0] rfl (by simp [Value.oneCell', pt, vi])
 have hne : ∀ b, v.ownBlock = some b → b ≠ wd := by
  intro b hb e
  obtain ⟨cur, k1⟩ := own_94 h.row.1 hb
  subst e
  rw [h.box] at k1
  cases k1
 have hb3 := ho.blk (g := wd) (by intro hm; exact hne wd (by simpa using hm) rfl) hb1
 refine ⟨(blk_cell hb1 1).trans rfl, (blk_cell (blk_alloc hb1 _) 1).trans rfl, g, cap, w3, _, _, _, hr, (blk_cell hb3 1).trans rfl, blk_frozen hb3 1, hid (nat_next h' e1 (by rw [et] at hf3; exact hf3) ho hat)⟩
set_option maxHeartbeats 4000000 in
theorem WNew_yes (c : Cfg) (w : World) (hc : c.right) : Calls Tryz.prog 12 #[c.val] w fun e w' => ∃ wd, e = .returned (.tuple #[pt wd, .int .i64 0]) ∧ Below w.heap.size w w' ∧ w.heap.size ≤ wd ∧ ∃ F, WorldAt c wd w0 w' F ∧ ∀ b ∈ F, w.heap.size ≤ b := by
 have hN := fun w => New_yes c w hc
 have hT := fun (j : Nat) w => ThNew_any c (j : Int) w
 have HN := hid hN
 have HT := hid hT
 have HC := hid hc
 obtain ⟨N, hTN, h0N, hN8⟩ : ∃ N : Nat, c.T = (N : Int) ∧ 0 < N ∧ N ≤ 8 := by
  obtain ⟨a1, a2, a3, a4, a5, a6, a7, a8, a9, a10⟩ := hc
  refine ⟨c.T.toNat, ?_, ?_, ?_⟩ <;> omega
 have HTN := hid hTN
 clear hN hT hc hTN
 obtain ⟨T, S, K, L, Q⟩ := c
 unfold Cfg.val at HN HT ⊢
 simp only at HN HT ⊢
 have hTN2 := HTN.out
 simp only at hTN2
 subst hTN2
 go_enter Tryz.func12, Tryz.ntmps12
 go_wp2_with fail
 have b1 := blk_new w (.cells #[.int .i64 (N : Int), .int .i64 S, .int .i64 K, .int .i64 L, .int .u64 Q] 24)
 have hB := below_alloc (Below.refl w.heap.size w) (.cells #[.int .i64 (N : Int), .int .i64 S, .int .i64 K, .int .i64 L, .int .u64 Q] 24)
 refine (HN.out _).mono ?_
 rintro e w1 ⟨mb, wb, rfl, hM, hb1, hl1, hl2⟩
 have p1 := blk_below b1 hb1
 have hst := nat_start hM (below_then hB hb1) (by simp at hl1; omega) (by simp at hl2; omega) p1
 have HM := hid hM
 have HB1 := hid (below_then hB hb1)
 clear hM hb1 hl1 hl2 hB b1
 have c0 := blk_cell (blk_alloc p1 (.cells #[.pointer (some ⟨mb, 0, none⟩), .slice none 0 0, .slice none 0 0] 77)) 0
 have HST := hid hst
 clear hst p1
 simp at c0
 go_wp2_with fail
 have HST2 : Hid (NAt ⟨(N : Int), S, K, L, Q⟩ w1.heap.size mb wb w.heap.size 0 (fun x => 0) [] (Value.slice none 0 0) [mb, wb] w (w1.alloc (Obj.cells #[.pointer (some ⟨mb, 0, none⟩), Value.slice none 0 0, Value.slice none 0 0] 77))) := HST
 clear HST c0
 generalize w1.alloc (Obj.cells #[.pointer (some ⟨mb, 0, none⟩), Value.slice none 0 0, Value.slice none 0 0] 77) = W1 at *
 generalize w1.heap.size = wd at *
 generalize hcb : w.heap.size = cb at *
 have HCB := hid hcb
 clear hcb HM HB1
 go_loopw [22] (fun i wr => ∃ (j : Nat) (tb : Nat → Nat) (wl : List (Nat × Nat)) (v : Value) (F0 : List Nat), i = .int .i64 (j : Int) ∧ j ≤ N ∧ Hid (NAt ⟨(N : Int), S, K, L, Q⟩ wd mb wb cb j tb wl v F0 w wr)) (fun i _ => N - (intOf i).toNat)
 case atStart => exact ⟨0, _, _, _, _, rfl, Nat.zero_le _, HST2⟩
 case round =>
  obtain ⟨j, tb, wl, v, F0, rfl, hj, hA⟩ := hrel
  by_cases hlt : j < N
  ·have b1 := hA.out.box
   have b2 := hA.out.cbx
   unfold cfV vi at b2
   unfold pt at b1
   simp only at b2
   have x0 := blk_cell b1 1
   have y0 := blk_cell b2 0
   have y1 := blk_cell b2 1
   have y2 := blk_cell b2 2
   have y3 := blk_cell b2 3
   have y4 := blk_cell b2 4
   simp at x0 y0 y1 y2 y3 y4
   go_wp2_with fail
   go_region_law (first | (refine step_append_run rfl (.tmp 29) (.tmp 34) 75 rfl hrun rfl rfl ?_) | (go_simp; go_wp2_with (go_at_call 32; refine (HT.out j _).mono ?_; rintro e w2 ⟨he, e2⟩; obtain ⟨tn, htn⟩ : ∃ tn, tn = wr.heap.size + 1 := ⟨_, rfl⟩; have he2 : e = .returned (.pointer (some ⟨tn, 0, none⟩)) := (by rw [htn]; exact he); subst he2; obtain ⟨f1, f2, g, cap, w3, tb', wl', F', hrun, f3, f4, hnext⟩ := nat_round hA.out (by omega) e2 htn; clear he e2 htn)))
   all_goals (
    go_wp2_with fail
    go_roundw
    case rel => exact ⟨j + 1, _, _, _, _, by go_num, by omega, hnext⟩
    case measure => simp [intOf] <;> omega)
  ·have hjn : j = N := by omega
   have HJN := hid hjn
   clear hjn
   go_wp2_with fail
   refine bodyPost_ret (results_tmp2 rfl _ _ _) rfl ?_
   obtain ⟨F, hF1, hF2⟩ := nat_end hA.out (N := j) (by rw [HJN.out]; simp) (by rw [HJN.out]; exact h0N)
   refine ⟨wd, rfl, ?_, ?_, F, hF1, ?_⟩
   ·have := hA.out.row.2
    exact this
   ·have := hA.out.new
    exact this
   ·intro b hb
    have := hF2 b hb
    exact this
theorem WNew_no (c : Cfg) (w : World) (hQ : 0 ≤ c.Q) (hc : ¬ c.right) : Calls Tryz.prog 12 #[c.val] w fun e w' => e = .returned (.tuple #[.pointer none, .int .i64 1]) ∧ Below w.heap.size w w' := by
 have hN := fun w => New_no c w hQ hc
 have HN := hid hN
 clear hN hc
 obtain ⟨T, S, K, L, Q⟩ := c
 unfold Cfg.val at HN ⊢
 simp only at HN ⊢
 go_enter Tryz.func12, Tryz.ntmps12
 go_wp2_with fail
 have hB := below_alloc (Below.refl w.heap.size w) (.cells #[.int .i64 T, .int .i64 S, .int .i64 K, .int .i64 L, .int .u64 Q] 24)
 refine (HN.out _).mono ?_
 rintro e w1 ⟨rfl, hb1⟩
 go_wp2_with fail
 refine bodyPost_ret (results_tmp2 rfl _ _ _) rfl ?_
 exact ⟨rfl, below_then hB hb1⟩
theorem Made_yes (c : Cfg) (n : Int) (w : World) (hc : c.right) : Calls Tryz.prog 4 #[c.val, vi n] w fun e w' => ∃ wd, e = .returned (.tuple #[pt wd, .bool (decide (n ≤ 150))]) ∧ Below w.heap.size w w' ∧ w.heap.size ≤ wd ∧ ∃ F, WorldAt c wd w0 w' F ∧ ∀ b ∈ F, w.heap.size ≤ b := by
 have hN := fun w => WNew_yes c w hc
 have HN := hid hN
 clear hN hc
 obtain ⟨T, S, K, L, Q⟩ := c
 unfold Cfg.val vi pt at *
 simp only at HN ⊢
 go_enter Tryz.func4, Tryz.ntmps4
 go_wp2_with fail
 have hB := below_alloc (Below.refl w.heap.size w) (.cells #[.int .i64 T, .int .i64 S, .int .i64 K, .int .i64 L, .int .u64 Q] 24)
 refine (HN.out _).mono ?_
 rintro e w1 ⟨wd, rfl, hb1, hl, F, hF, hF2⟩
 have hs : w.heap.size < (w.alloc (.cells #[.int .i64 T, .int .i64 S, .int .i64 K, .int .i64 L, .int .u64 Q] 24)).heap.size := by simp
 have HH := hid (And.intro hF (And.intro hF2 (And.intro hl (And.intro hs (below_then hB hb1)))))
 clear hF hF2 hB hb1 hl hs
 go_wp2_with fail
 refine bodyPost_ret (results_tmp2 rfl _ _ _) rfl ?_
 obtain ⟨h1, h2, h3, h4, h5⟩ := HH.out
 exact ⟨wd, rfl, h5, by omega, F, h1, fun b hb => by have := h2 b hb; omega⟩
theorem Made_no (c : Cfg) (n : Int) (w : World) (hQ : 0 ≤ c.Q) (hc : ¬ c.right) : Calls Tryz.prog 4 #[c.val, vi n] w fun e w' => e = .returned (.tuple #[.pointer none, .bool false]) ∧ Below w.heap.size w w' := by
 have hN := fun w => WNew_no c w hQ hc
 have HN := hid hN
 clear hN hc
 obtain ⟨T, S, K, L, Q⟩ := c
 unfold Cfg.val vi at *
 simp only at HN ⊢
 go_enter Tryz.func4, Tryz.ntmps4
 go_wp2_with fail
 have hB := below_alloc (Below.refl w.heap.size w) (.cells #[.int .i64 T, .int .i64 S, .int .i64 K, .int .i64 L, .int .u64 Q] 24)
 refine (HN.out _).mono ?_
 rintro e w1 ⟨rfl, hb1⟩
 go_wp2_with fail
 refine bodyPost_ret (results_tmp2 (t := 4) (u := 5) rfl _ _ _) (by rfl) ?_
 exact ⟨rfl, below_then hB hb1⟩
theorem Has_any (wd wk n cap : Nat) (id : Int) (w : World) (h : w.cell? ⟨wd, 1, none⟩ = some (.slice (some ⟨wk, 0, none⟩) n cap)) (h0 : 0 ≤ id) (h1 : id < (n : Int)) : Calls Tryz.prog 33 #[.pointer (some ⟨wd, 0, none⟩), .int .i64 id] w fun e w' => e = .returned (.bool true) ∧ w' = w := by
 have g0 : id ≥ 0 := h0
 go_enter Tryz.func33, Tryz.ntmps33
 go_wp2
 all_goals first | omega | (go_ret; exact ⟨rfl, rfl⟩)
theorem Idle_yes (t : Nat) (w : World) (h : w.cell? ⟨t, 6, none⟩ = some .nilFunc) : Calls Tryz.prog 36 #[.pointer (some ⟨t, 0, none⟩)] w fun e w' => e = .returned (.bool true) ∧ w' = w := by
 have hq : ∀ w : World, (binOp .eql 119 .nilFunc .nilFunc).run Tryz.prog w = .ok (.bool true) w := fun w => by kernel_rfl
 go_enter Tryz.func36, Tryz.ntmps36
 go_wp2
 go_ret
 exact ⟨rfl, rfl⟩
theorem Idle_no (t : Nat) (fk : Fn) (fa fc : Array Value) (w : World) (h : w.cell? ⟨t, 6, none⟩ = some (.func fk fa fc)) : Calls Tryz.prog 36 #[.pointer (some ⟨t, 0, none⟩)] w fun e w' => e = .returned (.bool false) ∧ w' = w := by
 have hq : ∀ w : World, (binOp .eql 119 (.func fk fa fc) .nilFunc).run Tryz.prog w = .ok (.bool false) w := fun w => by kernel_rfl
 go_enter Tryz.func36, Tryz.ntmps36
 go_wp2
 go_ret
 exact ⟨rfl, rfl⟩
theorem Idle_any {c : Cfg} {mb wb nt : Nat} {tb : Nat → Nat} {e : WE} {w : World} {F : List Nat} {k : Nat} (h : WI c mb wb nt tb e w F) (hk : k < nt) : Calls Tryz.prog 36 #[.pointer (some ⟨tb k, 0, none⟩)] w fun en w' => en = .returned (.bool (e.th k).isIdle) ∧ w' = w := by
 obtain ⟨h1, h2, h3, B, hB⟩ := h
 have hf := hB.form k hk
 have hh := hB.has k hk
 have cell : ∀ {id : Int} {sv pv dv a1 a2 a3 : Value} {X : List Blk}, B k = thB c (tb k) id sv pv dv a1 a2 a3 :: X → w.cell? ⟨tb k, 6, none⟩ = some sv := by
  intro id sv pv dv a1 a2 a3 X e
  obtain ⟨r, hr, -⟩ := hh.each (thB c (tb k) id sv pv dv a1 a2 a3) (by rw [e]; simp)
  refine (blk_cell hr 6).trans ?_
  show (#[vi c.T, vi c.S, vi c.K, vi c.L, Value.int IntKind.u64 c.Q, vi id, sv, pv, dv, a1, a2, a3] ++ r)[6]? = some sv
  rw [Array.getElem?_append_left (by simp)]
  rfl
 cases hst : e.th k with
 | idle a =>
  rw [hst] at hf
  obtain ⟨pv, dv, X, e⟩ := hf
  exact Idle_yes _ _ (cell e)
 | pinLoad m =>
  rw [hst] at hf
  obtain ⟨pb, pe, d, a1, a2, a3, X, e, hX⟩ := hf
  exact Idle_no _ _ _ _ _ (cell e)
 | pinLay e m =>
  rw [hst] at hf
  obtain ⟨pb, d, a1, a2, a3, X, e, hX⟩ := hf
  exact Idle_no _ _ _ _ _ (cell e)
 | work m =>
  rw [hst] at hf
  obtain ⟨vp, d, a1, a2, a3, X, e, hX⟩ := hf
  exact Idle_no _ _ _ _ _ (cell e)
 | leave kd a =>
  rw [hst] at hf
  obtain ⟨vp, d, a1, a2, a3, X, e, hX⟩ := hf
  exact Idle_no _ _ _ _ _ (cell e)
theorem wa_facts {c : Cfg} {wd : Nat} {s : Wd} {w : World} {F : List Nat} (h : WorldAt c wd s w F) {k : Nat} (hk : (k : Int) < c.T) :
  ∃ wk n cap t : Nat, w.cell? ⟨wd, 1, none⟩ = some (.slice (some ⟨wk, 0, none⟩) n cap) ∧ (k : Int) < (n : Int) ∧ w.cell? ⟨wk, k * 2, none⟩ = some (.pointer (some ⟨t, 0, none⟩)) ∧ Calls Tryz.prog 36 #[.pointer (some ⟨t, 0, none⟩)] w fun en w' => en = .returned (.bool (s.th k).isIdle) ∧ w' = w := by
 obtain ⟨mb, wb, wk, capw, tb, wl, evv, F0, h⟩ := h
 have hk2 : k < c.T.toNat := by omega
 obtain ⟨sp, hw⟩ := h.wks
 obtain ⟨r, hr, -⟩ := h.box
 refine ⟨wk, c.T.toNat, capw, tb k, ?_, by omega, ?_, Idle_any h.wi hk2⟩
 ·refine (blk_cell hr 1).trans ?_
  show (#[pt mb, .slice (some ⟨wk, 0, none⟩) c.T.toNat capw, evv] ++ r)[1]? = _
  rw [Array.getElem?_append_left (by simp)]
  rfl
 ·refine (blk_cell hw (k * 2)).trans ?_
  rw [Array.getElem?_append_left (by rw [List.size_toArray, wk_len, h.wlen]; omega), List.getElem?_toArray, flat_split wkC wl (h.wat k hk2), List.append_assoc, List.getElem?_append_right (by rw [wk_len, List.length_take, h.wlen]; omega), wk_len, List.length_take, h.wlen, show min k c.T.toNat = k by omega, Nat.sub_self]
  rfl
set_option maxHeartbeats 2000000 in
theorem Ends_any {c : Cfg} {wd : Nat} {s : Wd} {w : World} {F : List Nat} (h : WorldAt c wd s w F) (hr : Reach c s) (hc : c.right) (most : Nat) (hm : most < 100000) (hn : s.n < 900000000) (k : Nat) (hk : (k : Int) < c.T) :
  Calls Tryz.prog 14 #[.pointer (some ⟨wd, 0, none⟩), .int .i64 (k : Int), .int .i64 (most : Int)] w fun e w' => e = .returned (.bool ((picks c s k most).th k).isIdle) ∧ ∃ F', WorldAt c wd (picks c s k most) w' F' ∧ Only F w w' ∧ ∀ x ∈ F', x ∈ F ∨ w.heap.size ≤ x := by
 have HW := Lib.hid (And.intro h hr)
 have HK := Lib.hid hk
 clear h hr hk
 go_enter Tryz.func14, Tryz.ntmps14
 go_wp2_with fail
 go_loopw [2] (fun i wr => ∃ (s' : Wd) (m : Nat) (F' : List Nat), i = .int .i64 (m : Int) ∧ m ≤ most ∧ Hid (picks c s k most = picks c s' k m) ∧ Hid (WorldAt c wd s' wr F' ∧ Reach c s' ∧ s'.n + m ≤ s.n + most ∧ Only F w wr ∧ ∀ x ∈ F', x ∈ F ∨ w.heap.size ≤ x)) (fun i _ => (intOf i).toNat)
 case atStart => exact ⟨s, most, F, rfl, Nat.le_refl _, Lib.hid rfl, Lib.hid ⟨HW.out.1, HW.out.2, Nat.le_refl _, .of (Below.refl _ _), fun x hx => .inl hx⟩⟩
 case round =>
  obtain ⟨s', m, F', rfl, hmm, hpk, hD⟩ := hrel
  by_cases hlt : 0 < m
  ·have hS := step_any hD.out.1 (reach_str hc hD.out.2.1) (by have := hD.out.2.2.1; omega) (k : Int)
   cases hs : (wstepZ c s' (k : Int)).1 with
   | true =>
    rw [hs] at hS
    have HS := Lib.hid (And.intro hS hs)
    clear hS hs
    go_wp2_with (go_at_call 35; refine Calls.mono HS.out.1 ?_; rintro e w2 ⟨rfl, F2, k1, k2, k3⟩)
    go_roundw
    case rel => exact ⟨(wstepZ c s' k).2, m - 1, F2, by go_num, by omega, Lib.hid (by
     rw [hpk.out, show m = (m - 1) + 1 by omega]
     exact picks_go HS.out.2), Lib.hid ⟨k1, reach_stepZ hD.out.2.1 k, by have := hD.out.2.2.1; have := (stepZ_n (c := c) (s := s') (id := k)).1; omega, only_then hD.out.2.2.2.1 k2 hD.out.2.2.2.2, fun x hx => by
      rcases k3 x hx with h1 | h1
      ·exact hD.out.2.2.2.2 x h1
      ·exact .inr (Nat.le_trans hD.out.2.2.2.1.size h1)⟩⟩
    case measure => simp [intOf] <;> omega
   | false =>
    rw [hs] at hS
    have HS := Lib.hid (And.intro hS hs)
    clear hS hs
    go_wp2_with (go_at_call 35; refine Calls.mono HS.out.1 ?_; rintro e w2 ⟨rfl, F2, k1, k2, k3⟩; rw [stepZ_no HS.out.2] at k1; obtain ⟨wk, n, cap, t, q1, q2, q3, q4⟩ := wa_facts k1 HK.out; have Q4 := Lib.hid q4; clear q4; have K1 := Lib.hid k1; clear k1)
    have X33 := Lib.hid (Has_any wd wk n cap (k : Int) w2 q1 (by omega) q2)
    go_wp2_with (first | (go_at_call 33; refine X33.out.mono ?_; rintro e w4 ⟨rfl, rfl⟩) | (go_at_call 36; refine Q4.out.mono ?_; rintro e w4 ⟨rfl, rfl⟩))
    go_ret
    have hp : picks c s k most = s' := by rw [hpk.out]; exact picks_no HS.out.2
    rw [hp]
    exact ⟨rfl, F2, K1.out, only_then hD.out.2.2.2.1 k2 hD.out.2.2.2.2, fun x hx => by
      rcases k3 x hx with h1 | h1
      ·exact hD.out.2.2.2.2 x h1
      ·exact .inr (Nat.le_trans hD.out.2.2.2.1.size h1)⟩
  ·have hm0 : m = 0 := by omega
   subst hm0
   obtain ⟨wk, n, cap, t, q1, q2, q3, q4⟩ := wa_facts hD.out.1 HK.out
   have Q4 := Lib.hid q4
   have X33 := Lib.hid (Has_any wd wk n cap (k : Int) wr q1 (by omega) q2)
   clear q4
   go_wp2_with (first | (go_at_call 33; refine X33.out.mono ?_; rintro e w4 ⟨rfl, rfl⟩) | (go_at_call 36; refine Q4.out.mono ?_; rintro e w4 ⟨rfl, rfl⟩))
   go_ret
   have hp : picks c s k most = s' := by rw [hpk.out]; rfl
   rw [hp]
   exact ⟨rfl, F', hD.out.1, hD.out.2.2.2.1, hD.out.2.2.2.2⟩
end Go.Proofs.YtfinmiakbpmjiaaGreat.Um
