/-
  The statement's walk.
-/
import Derived.Test.YtfinmiakbpmjiaaGreatWoK
import Derived.Test.YtfinmiakbpmjiaaGreatReJ
import Derived.Test.YtfinmiakbpmjiaaGreatReL
import Derived.Test.YtfinmiakbpmjiaaGreatKit
import Derived.Lib.SmallJoins
import Derived.Deep.Slices
set_option linter.unusedSimpArgs false
set_option linter.unusedVariables false
set_option maxRecDepth 100000
namespace Go.Proofs.YtfinmiakbpmjiaaGreat.Um
open Go Go.RowKit Go.Proofs.YtfinmiakbpmjiaaGreat Go.Proofs.YtfinmiakbpmjiaaGreat.Ax
structure Ac where
 t : Int
 kd : Int
 h : Nat
 k : Int
def Ac.cs (x : Ac) : List Value := [.int .i64 x.t, .int .i64 x.kd, .int .u64 (x.h : Int), .int .i64 x.k]
theorem ac_at {w : World} {B : Nat} {A : Option Addr} {l : List Ac} (h : Re.Reads w B 4 A l.length (l.flatMap Ac.cs)) {k : Nat} (hk : k < l.length) :
  ∃ ad, A = some ad ∧ ad.block < B ∧ w.cell? (ad.add (k * 4)) = some (.int .i64 l[k].t) ∧ w.cell? ⟨(ad.add (k * 4)).block, (ad.add (k * 4)).off + 1, none⟩ = some (.int .i64 l[k].kd) ∧ w.cell? ⟨(ad.add (k * 4)).block, (ad.add (k * 4)).off + 2, none⟩ = some (.int .u64 (l[k].h : Int)) ∧ w.cell? ⟨(ad.add (k * 4)).block, (ad.add (k * 4)).off + 3, none⟩ = some (.int .i64 l[k].k) := by
 obtain ⟨ad, e, hb, hc⟩ := h.2 (by omega)
 have hf : ∀ j u, j < 4 → (l[k].cs)[j]? = some u → w.cell? (ad.add (k * 4 + j)) = some u := fun j u hj hu => hc _ _ (by rw [Re.flat_at Ac.cs 4 (fun _ => rfl) l k hk j hj]; exact hu)
 exact ⟨ad, e, hb, hf 0 _ (by omega) rfl, by rw [← Re.add_field _ _ 1 (by omega)]; exact hf 1 _ (by omega) rfl, by rw [← Re.add_field _ _ 2 (by omega)]; exact hf 2 _ (by omega) rfl, by rw [← Re.add_field _ _ 3 (by omega)]; exact hf 3 _ (by omega) rfl⟩
def doAll (c : Cfg) : List Ac → Wd → Wd
 | [], s => s
 | x :: l, s => doAll c l (doW c s x.t x.kd x.h x.k)
theorem picks_n {c : Cfg} {id : Int} : ∀ (n : Nat) {s : Wd}, (picks c s id n).n ≤ s.n + n ∧ (picks c s id n).evs.length = s.evs.length
 | 0, s => ⟨Nat.le_refl _, rfl⟩
 | n + 1, s => by
  unfold picks
  split
  ·obtain ⟨h1, h2⟩ := picks_n (c := c) (id := id) n (s := (wstepZ c s id).2)
   have := (stepZ_n (c := c) (s := s) (id := id))
   exact ⟨by omega, h2.trans this.2⟩
  ·exact ⟨by omega, rfl⟩
theorem picks_reach {c : Cfg} {id : Int} : ∀ (n : Nat) {s : Wd}, Reach c s → Reach c (picks c s id n)
 | 0, s, h => h
 | n + 1, s, h => by
  unfold picks
  split
  ·exact picks_reach n (reach_stepZ h id)
  ·exact h
theorem doW_n {c : Cfg} {s : Wd} {x : Ac} : (doW c s x.t x.kd x.h x.k).n ≤ s.n + 63 ∧ (doW c s x.t x.kd x.h x.k).evs.length ≤ s.evs.length + 1 := by
 unfold doW
 split
 ·unfold wstartZ
  split
  ·unfold wstart
   split
   all_goals simp
  ·simp
 ·have := picks_n (c := c) (id := x.t) (x.h % 64) (s := s)
  omega
theorem doW_reach {c : Cfg} {s : Wd} {x : Ac} (h : Reach c s) (h64 : x.h < 18446744073709551616) : Reach c (doW c s x.t x.kd x.h x.k) := by
 unfold doW
 split
 ·exact reach_startZ h _ _ _ _ h64
 ·exact picks_reach _ h
theorem doAll_snoc (c : Cfg) (x : Ac) : ∀ (l : List Ac) (s : Wd), doAll c (l ++ [x]) s = doW c (doAll c l s) x.t x.kd x.h x.k
 | [], _ => rfl
 | y :: l, s => by
  show doAll c (l ++ [x]) _ = _
  rw [doAll_snoc c x l]
  rfl
def ActsIn (w : World) (v : Value) (l : List Ac) : Prop := ∃ A cap, v = .slice A l.length cap ∧ Re.Reads w w.heap.size 4 A l.length (l.flatMap Ac.cs) ∧ ∀ x ∈ l, x.h < 18446744073709551616
theorem logR_at {l : List Ev} {m : Nat} (hm : m < (logR l).length) : ∃ ev : Ev, l[m]? = some ev ∧ (logR l)[m] = ev.rv := by
 have h : m < l.length := by rw [logR_len] at hm; exact hm
 exact ⟨l[m], List.getElem?_eq_getElem h, by simp [logR]⟩
theorem fail_at {c : Cfg} {s : Wd} (hc : c.right) (hr : Reach c s) (hn : s.n < 1000000000) {v : Value} {w : World} (hv : Re.Evs w w.heap.size v (logR s.evs)) (hh : ∀ x ∈ logR s.evs, x.h < 18446744073709551616) (h9 : (logR s.evs).length < 9000) {m : Nat} (hm : m < (logR s.evs).length) (hd : (logR s.evs)[m].dn = true) :
  Calls Tryz.prog 10 #[v, .int .i64 (m : Int)] w fun e w' => ∃ a b d : Int, e = .returned (.tuple #[.agg #[.int .u64 a, .int .u64 b, .int .u64 d], .bool ((logR s.evs)[m].e == 7)]) ∧ Below w.heap.size w w' := by
 obtain ⟨ev, hj, he⟩ := logR_at hm
 cases h7 : ((logR s.evs)[m].e == 7) with
 | true =>
  have h7' : (logR s.evs)[m].e = 7 := by simpa using h7
  obtain ⟨B, hl⟩ := reach_law hc hr hn
  refine Re.Fail_yes hv hh hm h9 hd h7' ?_
  have h := fail_told hl hj (by rw [he] at hd; exact hd) (by rw [he] at h7'; exact h7')
  rw [he]
  exact h
 | false => exact Re.Fail_no hv hm hd (by simpa using h7)
theorem clash_at {c : Cfg} {s : Wd} (hc : c.right) (hr : Reach c s) (hn : s.n < 1000000000) {v : Value} {w : World} (hv : Re.Evs w w.heap.size v (logR s.evs)) (hh : ∀ x ∈ logR s.evs, x.h < 18446744073709551616) (h9 : (logR s.evs).length < 9000) {m : Nat} (hm : m < (logR s.evs).length) (hd : (logR s.evs)[m].dn = true) :
  Calls Tryz.prog 11 #[v, .int .i64 (m : Int)] w fun e w' => ∃ a, e = .returned (.tuple #[a, .bool ((logR s.evs)[m].e == 8)]) ∧ Below w.heap.size w w' := by
 obtain ⟨ev, hj, he⟩ := logR_at hm
 cases h8 : ((logR s.evs)[m].e == 8) with
 | true =>
  have h8' : (logR s.evs)[m].e = 8 := by simpa using h8
  obtain ⟨B, hl⟩ := reach_law hc hr hn
  refine Re.Clash_yes hv hh hm h9 hd h8' ?_
  have h := clash_told hl hj (by rw [he] at hd; exact hd) (by rw [he] at h8'; exact h8')
  rw [he]
  exact h
 | false => exact Re.Clash_no hv hm hd (by simpa using h8)
theorem commit_at {c : Cfg} {s : Wd} (hc : c.right) (hr : Reach c s) (hn : s.n < 1000000000) (hA : Re.ApartOf (logR s.evs)) {m : Nat} (hm : m < (logR s.evs).length) (hd : (logR s.evs)[m].dn = true) (hk : (logR s.evs)[m].kd = 4) :
  (logR s.evs)[m].e = 0 ∨ (logR s.evs)[m].e = 2 ∨ (logR s.evs)[m].e = 3 ∨ (logR s.evs)[m].e = 4 ∨ ((logR s.evs)[m].e = 6 ∧ c.Q ≤ ((logR s.evs).length : Int)) := by
 obtain ⟨ev, hj, he⟩ := logR_at hm
 rw [he] at hd hk ⊢
 rw [logR_len]
 exact commit_told hc hr hn hA hj hd hk
set_option maxHeartbeats 8000000 in
theorem Why_go (c : Cfg) (v : Value) (l : List Ac) (w : World) (hc : c.right) (hl : l.length ≤ 150) (hv : ActsIn w v l) (hal : ∀ w, Calls Tryz.prog 5 #[] w fun e w' => e = .returned (.bool true) ∧ Below w.heap.size w w') :
  Calls Tryz.prog 3 #[c.val, v] w fun e w' => e = .returned (.bool true) ∧ Below w.heap.size w w' := by
 have hM := fun w => Made_yes c (l.length : Int) w hc
 obtain ⟨A, cap, rfl, hr, h64⟩ := hv
 have HM := hid hM
 have HAL := hid hal
 have HC := hid hc
 have H64 := hid h64
 have HR := hid hr
 have hdec : decide ((l.length : Int) ≤ 150) = true := by simp; omega
 rw [hdec] at HM
 clear hM hal hc h64 hr hdec
 obtain ⟨T, S, K, L, Q⟩ := c
 unfold Cfg.val vi pt at HM
 unfold Cfg.val
 simp only at HM ⊢
 go_enter Tryz.func3, Tryz.ntmps3
 go_wp2_with fail
 have b1 := blk_new w (.cells #[.int .i64 T, .int .i64 S, .int .i64 K, .int .i64 L, .int .u64 Q] 24)
 have hB := below_alloc (Below.refl w.heap.size w) (.cells #[.int .i64 T, .int .i64 S, .int .i64 K, .int .i64 L, .int .u64 Q] 24)
 have hsz : w.heap.size < (w.alloc (.cells #[.int .i64 T, .int .i64 S, .int .i64 K, .int .i64 L, .int .u64 Q] 24)).heap.size := by simp
 refine (HM.out _).mono ?_
 rintro e w1 ⟨wd, rfl, hb1, hwd, F, hF, hF2⟩
 have HB1 := hid (below_then hB hb1)
 have HCB := hid (blk_below b1 hb1)
 have HF := hid (And.intro hF (fun x (hx : x ∈ F) => Nat.lt_of_lt_of_le hsz (hF2 x hx)))
 clear hB hb1 b1 hF hF2 hwd hsz
 go_wp2_with fail
 go_loopw [30] (fun i wr => ∃ (k : Nat) (F' : List Nat), i = .int .i64 (k : Int) ∧ k ≤ l.length ∧ Hid (WorldAt ⟨T, S, K, L, Q⟩ wd (doAll ⟨T, S, K, L, Q⟩ (l.take k) w0) wr F' ∧ Reach ⟨T, S, K, L, Q⟩ (doAll ⟨T, S, K, L, Q⟩ (l.take k) w0) ∧ (doAll ⟨T, S, K, L, Q⟩ (l.take k) w0).n ≤ 63 * k ∧ (doAll ⟨T, S, K, L, Q⟩ (l.take k) w0).evs.length ≤ k ∧ Below w.heap.size w wr ∧ (∀ x ∈ F', w.heap.size < x) ∧ wr.heap[w.heap.size]? = some (.cells #[.int .i64 T, .int .i64 S, .int .i64 K, .int .i64 L, .int .u64 Q] 24 (0, 0)))) (fun i _ => l.length - (intOf i).toNat)
 case atStart => exact ⟨0, F, rfl, Nat.zero_le _, hid ⟨by simpa [doAll] using HF.out.1, by simpa [doAll] using Reach.init, by simp [doAll, w0], by simp [doAll, w0], HB1.out, HF.out.2, HCB.out⟩⟩
 case round =>
  obtain ⟨k, F', rfl, hk, hD⟩ := hrel
  by_cases hlt : k < l.length
  ·obtain ⟨ad, rfl, hbl, c0, c1, c2, c3⟩ := ac_at (HR.out.below hD.out.2.2.2.2.1) hlt
   have HL := hid hbl
   clear hbl
   have hkeep := hD.out.1.keep (L := []) (w' := wr.alloc (.cells #[.int .i64 l[k].t, .int .i64 l[k].kd, .int .u64 (l[k].h : Int), .int .i64 l[k].k] 33)) (only_alloc wr _) (by simp)
   have hDo := Do_any hkeep hD.out.2.1 HC.out (by have := hD.out.2.2.1; omega) (by have := hD.out.2.2.2.1; omega) l[k].t l[k].kd l[k].h l[k].k (H64.out _ (List.getElem_mem hlt))
   have HDo := hid hDo
   clear hkeep hDo
   go_wp2_with fail
   refine HDo.out.mono ?_
   rintro e w2 ⟨rfl, F2, k1, k2, k3⟩
   have hO : Below w.heap.size w w2 := by
    have h1 := below_alloc hD.out.2.2.2.2.1 (.cells #[.int .i64 l[k].t, .int .i64 l[k].kd, .int .u64 (l[k].h : Int), .int .i64 l[k].k] 33)
    refine ⟨k2.os.trans h1.os, k2.tape.trans h1.tape, k2.output.trans h1.output, Nat.le_trans h1.size k2.size, fun b hb => ?_⟩
    rw [k2.block b (Nat.lt_of_lt_of_le hb h1.size) (fun hm => by have := hD.out.2.2.2.2.2.1 b hm; omega)]
    exact h1.block b hb
   have hF2 : ∀ x ∈ F2, w.heap.size < x := by
    intro x hx
    rcases k3 x hx with h1 | h1
    ·exact hD.out.2.2.2.2.2.1 x h1
    ·have h2 := blk_lt hD.out.2.2.2.2.2.2
     simp at h1
     omega
   have hcb := k2.blk (fun hm => by have := hD.out.2.2.2.2.2.1 _ hm; omega) (blk_alloc hD.out.2.2.2.2.2.2 _)
   have hstep : doAll ⟨T, S, K, L, Q⟩ (l.take (k + 1)) w0 = doW ⟨T, S, K, L, Q⟩ (doAll ⟨T, S, K, L, Q⟩ (l.take k) w0) l[k].t l[k].kd l[k].h l[k].k := by
    rw [List.take_succ_eq_append_getElem hlt]
    exact doAll_snoc _ _ _ _
   have HN := hid (And.intro hstep (And.intro k1 (And.intro hO (And.intro hF2 hcb))))
   clear k1 k2 k3 hO hF2 hcb hstep
   go_wp2_with fail
   go_roundw
   case rel => exact ⟨k + 1, F2, by go_num, by omega, hid (by
    rw [HN.out.1]
    have h1 := doW_n (c := ⟨T, S, K, L, Q⟩) (s := doAll ⟨T, S, K, L, Q⟩ (l.take k) w0) (x := l[k])
    exact ⟨HN.out.2.1, doW_reach hD.out.2.1 (H64.out _ (List.getElem_mem hlt)), by have := hD.out.2.2.1; omega, by have := hD.out.2.2.2.1; omega, HN.out.2.2.1, HN.out.2.2.2.1, HN.out.2.2.2.2⟩)⟩
   case measure => simp [intOf] <;> omega
  ·have hkl : k = l.length := by omega
   have HKL := hid hkl
   clear hkl
   have hE := Events_any hD.out.1 (by have := hD.out.2.2.2.1; omega)
   have HE := hid hE
   clear hE
   go_wp2_with fail
   refine HE.out.mono ?_
   rintro e w2 ⟨v2, rfl, hrow, hb2⟩
   have hev := evs_of_own (l := logR (doAll ⟨T, S, K, L, Q⟩ (l.take k) w0).evs) hrow (by rw [logR_len]; have := hD.out.2.2.2.1; omega)
   have HOl := hid (Olds_any hev)
   have HB2 := hid (below_then hD.out.2.2.2.2.1 hb2)
   have HC2 := hid (blk_below hD.out.2.2.2.2.2.2 hb2)
   clear hrow hev hb2
   go_wp2_with fail
   refine HOl.out.mono ?_
   rintro e w3 ⟨v3, rfl, hev, hb3⟩
   have HB3 := hid (below_then HB2.out hb3)
   have HC3 := hid (blk_below HC2.out hb3)
   have hlen : (logR (doAll ⟨T, S, K, L, Q⟩ (l.take k) w0).evs).length ≤ 150 := by rw [logR_len]; have := hD.out.2.2.2.1; omega
   have hh : ∀ x ∈ logR (doAll ⟨T, S, K, L, Q⟩ (l.take k) w0).evs, x.h < 18446744073709551616 := by
    intro x hx
    obtain ⟨j, ev, hj, rfl⟩ := logR_mem hx
    have := ((reach_str HC.out hD.out.2.1).ev j ev hj).2.2.2.2.2
    show (ev.h : Int) < _
    omega
   have HAp := hid (Re.Apart_any hev hh (by omega))
   have HEV := hid hev
   have HHH := hid (And.intro hlen hh)
   clear hb3 hev hlen hh HOl HE
   go_wp2_with fail
   refine HAp.out.mono ?_
   rintro e w4 ⟨ap, rfl, hap, hb4⟩
   have HB4 := hid (below_then HB3.out hb4)
   have HC4 := hid (blk_below HC3.out hb4)
   have hev4 := (HEV.out.below hb4)
   have HAP := hid hap
   have HS := hid (And.intro hD.out.2.1 (show (doAll ⟨T, S, K, L, Q⟩ (l.take k) w0).n < 1000000000 by have := hD.out.2.2.1; omega))
   have hs34 := hb4.size
   clear hb4 hap HAp HEV hD
   generalize doAll ⟨T, S, K, L, Q⟩ (l.take k) w0 = s at *
   obtain ⟨A2, c2, rfl, hc2, hl2, hr2⟩ := hev4
   have HL2 := hid (And.intro hc2 hl2)
   have HR2 := hid (hr2.more hs34)
   clear hc2 hl2 hr2 hs34
   cases hap : ap with
   | false =>
    go_wp2_with fail
    go_loopw [45] (fun i wr => ∃ m : Nat, i = .int .i64 (m : Int) ∧ m ≤ (logR s.evs).length ∧ Hid (Below w.heap.size w wr ∧ wr.heap[w.heap.size]? = some (.cells #[.int .i64 T, .int .i64 S, .int .i64 K, .int .i64 L, .int .u64 Q] 24 (0, 0)) ∧ Re.Reads wr wr.heap.size 10 A2 (logR s.evs).length ((logR s.evs).flatMap Re.Rv.cs))) (fun i _ => (logR s.evs).length - (intOf i).toNat)
    case atStart => exact ⟨0, rfl, Nat.zero_le _, hid ⟨HB4.out, HC4.out, HR2.out⟩⟩
    case round =>
     obtain ⟨m, rfl, hm, hI⟩ := hrel
     by_cases hlt2 : m < (logR s.evs).length
     ·obtain ⟨ad, rfl, hbl, c0, c1, c2', c3, c4, c5, c6, c7, c8, c9⟩ := Re.ev_at hI.out.2.2 hlt2
      have HBL := hid hbl
      have h150 : (logR s.evs).length ≤ 150 := HHH.out.1
      clear hbl
      cases hd : (logR s.evs)[m].dn with
      | false =>
       obtain ⟨bx, hbx⟩ : ∃ o : Obj, o = .cells #[.int .i64 (logR s.evs)[m].thr, .int .i64 (logR s.evs)[m].kd, .int .u64 (logR s.evs)[m].h, .int .i64 (logR s.evs)[m].k, .int .i64 (logR s.evs)[m].e, .int .u64 (logR s.evs)[m].ah, .int .u64 (logR s.evs)[m].an, .int .i64 (logR s.evs)[m].bg, .int .i64 (logR s.evs)[m].en, .bool false] 44 := ⟨_, rfl⟩
       have hB := below_alloc hI.out.1 bx
       have hc := blk_alloc hI.out.2.1 bx
       have hr := (hI.out.2.2.below (below_alloc (Below.refl _ _) bx)).more (by simp : wr.heap.size ≤ (wr.alloc bx).heap.size)
       have HH := hid (And.intro hB (And.intro hc hr))
       subst hbx
       clear hB hc hr
       go_wp2_with fail
       go_roundw
       case rel => exact ⟨m + 1, by go_num, by omega, HH⟩
       case measure => simp [intOf] <;> omega
      | true =>
       obtain ⟨bx, hbx⟩ : ∃ o : Obj, o = .cells #[.int .i64 (logR s.evs)[m].thr, .int .i64 (logR s.evs)[m].kd, .int .u64 (logR s.evs)[m].h, .int .i64 (logR s.evs)[m].k, .int .i64 (logR s.evs)[m].e, .int .u64 (logR s.evs)[m].ah, .int .u64 (logR s.evs)[m].an, .int .i64 (logR s.evs)[m].bg, .int .i64 (logR s.evs)[m].en, .bool true] 44 := ⟨_, rfl⟩
       have hB := below_alloc hI.out.1 bx
       have hc := blk_alloc hI.out.2.1 bx
       have hr := (hI.out.2.2.below (below_alloc (Below.refl _ _) bx)).more (by simp : wr.heap.size ≤ (wr.alloc bx).heap.size)
       have hx := blk_new wr bx
       have HFail := hid (fail_at HC.out HS.out.1 HS.out.2 (w := wr.alloc bx) ⟨some ad, c2, rfl, HL2.out.1, HL2.out.2, hr⟩ HHH.out.2 (by omega) hlt2 hd)
       have HX := hid (And.intro hB (And.intro hc (And.intro hr hx)))
       subst hbx
       have x9 := blk_cell hx 9
       simp at x9
       clear hB hc hr hx
       go_wp2_with fail
       refine HFail.out.mono ?_
       rintro e w5 ⟨fa, fb, fd, rfl, hb5⟩
       have p5 := blk_alloc (blk_below HX.out.2.2.2 hb5) (.cells #[.int .u64 fa, .int .u64 fb, .int .u64 fd] 45)
       have y4 := blk_cell p5 4
       simp at y4
       have HX5 := hid (And.intro (below_alloc (below_then HX.out.1 hb5) (.cells #[.int .u64 fa, .int .u64 fb, .int .u64 fd] 45)) (And.intro (blk_alloc (blk_below HX.out.2.1 hb5) (.cells #[.int .u64 fa, .int .u64 fb, .int .u64 fd] 45)) (And.intro ((((HX.out.2.2.1.below hb5).more hb5.size).alloc (Nat.le_refl _) (.cells #[.int .u64 fa, .int .u64 fb, .int .u64 fd] 45)).more (by simp : w5.heap.size ≤ (w5.alloc (.cells #[.int .u64 fa, .int .u64 fb, .int .u64 fd] 45)).heap.size)) p5)))
       clear p5 hb5
       have HClash := hid (clash_at HC.out HS.out.1 HS.out.2 (w := w5.alloc (.cells #[.int .u64 fa, .int .u64 fb, .int .u64 fd] 45)) ⟨some ad, c2, rfl, HL2.out.1, HL2.out.2, HX5.out.2.2.1⟩ HHH.out.2 (by omega) hlt2 hd)
       go_wp2_with fail
       refine HClash.out.mono ?_
       rintro e w6 ⟨ga, rfl, hb6⟩
       have p6 := blk_below HX5.out.2.2.2 hb6
       have z4 := blk_cell p6 4
       have z1 := blk_cell p6 1
       have q6 := blk_cell (blk_below HX5.out.2.1 hb6) 4
       simp at z4 z1 q6
       have HX6 := hid (And.intro (below_then HX5.out.1 hb6) (And.intro (blk_below HX5.out.2.1 hb6) ((HX5.out.2.2.1.below hb6).more hb6.size)))
       clear p6 hb6
       go_wp2_with fail
       go_roundw
       case rel => exact ⟨m + 1, by go_num, by omega, HX6⟩
       case measure => simp [intOf] <;> omega
     ·have hmn : m = (logR s.evs).length := by omega
      have HMN := hid hmn
      clear hmn
      go_wp2_with (go_at_call 5; refine (HAL.out _).mono ?_; rintro e w5 ⟨rfl, hb5⟩)
      go_ret
      exact ⟨rfl, below_then hI.out.1 hb5⟩
   | true =>
    go_wp2_with fail
    go_loopw [45] (fun i wr => ∃ m : Nat, i = .int .i64 (m : Int) ∧ m ≤ (logR s.evs).length ∧ Hid (Below w.heap.size w wr ∧ wr.heap[w.heap.size]? = some (.cells #[.int .i64 T, .int .i64 S, .int .i64 K, .int .i64 L, .int .u64 Q] 24 (0, 0)) ∧ Re.Reads wr wr.heap.size 10 A2 (logR s.evs).length ((logR s.evs).flatMap Re.Rv.cs))) (fun i _ => (logR s.evs).length - (intOf i).toNat)
    case atStart => exact ⟨0, rfl, Nat.zero_le _, hid ⟨HB4.out, HC4.out, HR2.out⟩⟩
    case round =>
     obtain ⟨m, rfl, hm, hI⟩ := hrel
     by_cases hlt2 : m < (logR s.evs).length
     ·obtain ⟨ad, rfl, hbl, c0, c1, c2', c3, c4, c5, c6, c7, c8, c9⟩ := Re.ev_at hI.out.2.2 hlt2
      have HBL := hid hbl
      have h150 : (logR s.evs).length ≤ 150 := HHH.out.1
      clear hbl
      cases hd : (logR s.evs)[m].dn with
      | false =>
       obtain ⟨bx, hbx⟩ : ∃ o : Obj, o = .cells #[.int .i64 (logR s.evs)[m].thr, .int .i64 (logR s.evs)[m].kd, .int .u64 (logR s.evs)[m].h, .int .i64 (logR s.evs)[m].k, .int .i64 (logR s.evs)[m].e, .int .u64 (logR s.evs)[m].ah, .int .u64 (logR s.evs)[m].an, .int .i64 (logR s.evs)[m].bg, .int .i64 (logR s.evs)[m].en, .bool false] 44 := ⟨_, rfl⟩
       have hB := below_alloc hI.out.1 bx
       have hc := blk_alloc hI.out.2.1 bx
       have hr := (hI.out.2.2.below (below_alloc (Below.refl _ _) bx)).more (by simp : wr.heap.size ≤ (wr.alloc bx).heap.size)
       have HH := hid (And.intro hB (And.intro hc hr))
       subst hbx
       clear hB hc hr
       go_wp2_with fail
       go_roundw
       case rel => exact ⟨m + 1, by go_num, by omega, HH⟩
       case measure => simp [intOf] <;> omega
      | true =>
       obtain ⟨bx, hbx⟩ : ∃ o : Obj, o = .cells #[.int .i64 (logR s.evs)[m].thr, .int .i64 (logR s.evs)[m].kd, .int .u64 (logR s.evs)[m].h, .int .i64 (logR s.evs)[m].k, .int .i64 (logR s.evs)[m].e, .int .u64 (logR s.evs)[m].ah, .int .u64 (logR s.evs)[m].an, .int .i64 (logR s.evs)[m].bg, .int .i64 (logR s.evs)[m].en, .bool true] 44 := ⟨_, rfl⟩
       have hB := below_alloc hI.out.1 bx
       have hc := blk_alloc hI.out.2.1 bx
       have hr := (hI.out.2.2.below (below_alloc (Below.refl _ _) bx)).more (by simp : wr.heap.size ≤ (wr.alloc bx).heap.size)
       have hx := blk_new wr bx
       have HFail := hid (fail_at HC.out HS.out.1 HS.out.2 (w := wr.alloc bx) ⟨some ad, c2, rfl, HL2.out.1, HL2.out.2, hr⟩ HHH.out.2 (by omega) hlt2 hd)
       have HX := hid (And.intro hB (And.intro hc (And.intro hr hx)))
       subst hbx
       have x9 := blk_cell hx 9
       simp at x9
       clear hB hc hr hx
       go_wp2_with fail
       refine HFail.out.mono ?_
       rintro e w5 ⟨fa, fb, fd, rfl, hb5⟩
       have p5 := blk_alloc (blk_below HX.out.2.2.2 hb5) (.cells #[.int .u64 fa, .int .u64 fb, .int .u64 fd] 45)
       have y4 := blk_cell p5 4
       simp at y4
       have HX5 := hid (And.intro (below_alloc (below_then HX.out.1 hb5) (.cells #[.int .u64 fa, .int .u64 fb, .int .u64 fd] 45)) (And.intro (blk_alloc (blk_below HX.out.2.1 hb5) (.cells #[.int .u64 fa, .int .u64 fb, .int .u64 fd] 45)) (And.intro ((((HX.out.2.2.1.below hb5).more hb5.size).alloc (Nat.le_refl _) (.cells #[.int .u64 fa, .int .u64 fb, .int .u64 fd] 45)).more (by simp : w5.heap.size ≤ (w5.alloc (.cells #[.int .u64 fa, .int .u64 fb, .int .u64 fd] 45)).heap.size)) p5)))
       clear p5 hb5
       have HClash := hid (clash_at HC.out HS.out.1 HS.out.2 (w := w5.alloc (.cells #[.int .u64 fa, .int .u64 fb, .int .u64 fd] 45)) ⟨some ad, c2, rfl, HL2.out.1, HL2.out.2, HX5.out.2.2.1⟩ HHH.out.2 (by omega) hlt2 hd)
       have HCo := fun (hk4 : (logR s.evs)[m].kd = 4) => commit_at HC.out HS.out.1 HS.out.2 (HAP.out hap) hlt2 hd hk4
       have HCO := hid HCo
       clear HCo
       go_wp2_with fail
       refine HClash.out.mono ?_
       rintro e w6 ⟨ga, rfl, hb6⟩
       have p6 := blk_below HX5.out.2.2.2 hb6
       have z4 := blk_cell p6 4
       have z1 := blk_cell p6 1
       have q6 := blk_cell (blk_below HX5.out.2.1 hb6) 4
       simp at z4 z1 q6
       have HX6 := hid (And.intro (below_then HX5.out.1 hb6) (And.intro (blk_below HX5.out.2.1 hb6) ((HX5.out.2.2.1.below hb6).more hb6.size)))
       clear p6 hb6
       by_cases hk4 : (logR s.evs)[m].kd = 4
       ·rcases HCO.out hk4 with he | he | he | he | ⟨he, hq⟩
        ·go_wp2_with fail
         go_roundw
         case rel => exact ⟨m + 1, by go_num, by omega, HX6⟩
         case measure => simp [intOf] <;> omega
        ·go_wp2_with fail
         go_roundw
         case rel => exact ⟨m + 1, by go_num, by omega, HX6⟩
         case measure => simp [intOf] <;> omega
        ·go_wp2_with fail
         go_roundw
         case rel => exact ⟨m + 1, by go_num, by omega, HX6⟩
         case measure => simp [intOf] <;> omega
        ·go_wp2_with fail
         go_roundw
         case rel => exact ⟨m + 1, by go_num, by omega, HX6⟩
         case measure => simp [intOf] <;> omega
        ·have hq1 : Q ≤ ((logR s.evs).length : Int) := hq
         have hq2 : ¬ Q > ((logR s.evs).length : Int) := by omega
         have hq3 : ¬ ((logR s.evs).length : Int) < Q := by omega
         go_wp2_with fail
         go_roundw
         case rel => exact ⟨m + 1, by go_num, by omega, HX6⟩
         case measure => simp [intOf] <;> omega
       ·have hk5 : ((logR s.evs)[m].kd == 4) = false := by simpa using hk4
        go_wp2_with fail
        go_roundw
        case rel => exact ⟨m + 1, by go_num, by omega, HX6⟩
        case measure => simp [intOf] <;> omega
     ·have hmn : m = (logR s.evs).length := by omega
      have HMN := hid hmn
      clear hmn
      go_wp2_with (go_at_call 5; refine (HAL.out _).mono ?_; rintro e w5 ⟨rfl, hb5⟩)
      go_ret
      exact ⟨rfl, below_then hI.out.1 hb5⟩
theorem Why_not (c : Cfg) (v : Value) (l : List Ac) (w : World) (hv : ActsIn w v l) (hM : ∀ w, Calls Tryz.prog 4 #[c.val, .int .i64 (l.length : Int)] w fun e w' => (∃ p, e = .returned (.tuple #[.pointer p, .bool false])) ∧ Below w.heap.size w w') (hal : ∀ w, Calls Tryz.prog 5 #[] w fun e w' => e = .returned (.bool true) ∧ Below w.heap.size w w') :
  Calls Tryz.prog 3 #[c.val, v] w fun e w' => e = .returned (.bool true) ∧ Below w.heap.size w w' := by
 obtain ⟨A, cap, rfl, hr, h64⟩ := hv
 have HM := hid hM
 have HAL := hid hal
 clear hM hal hr h64
 obtain ⟨T, S, K, L, Q⟩ := c
 unfold Cfg.val at HM
 unfold Cfg.val
 simp only at HM ⊢
 go_enter Tryz.func3, Tryz.ntmps3
 go_wp2_with fail
 have hB := below_alloc (Below.refl w.heap.size w) (.cells #[.int .i64 T, .int .i64 S, .int .i64 K, .int .i64 L, .int .u64 Q] 24)
 refine (HM.out _).mono ?_
 rintro e w1 ⟨⟨p, rfl⟩, hb1⟩
 have HB1 := hid (below_then hB hb1)
 clear hB hb1
 go_wp2_with (go_at_call 5; refine (HAL.out _).mono ?_; rintro e w5 ⟨rfl, hb5⟩)
 go_ret
 exact ⟨rfl, below_then HB1.out hb5⟩
theorem Why_any (c : Cfg) (v : Value) (l : List Ac) (w : World) (hQ : 0 ≤ c.Q) (hv : ActsIn w v l) (hal : ∀ w, Calls Tryz.prog 5 #[] w fun e w' => e = .returned (.bool true) ∧ Below w.heap.size w w') :
  Calls Tryz.prog 3 #[c.val, v] w fun e w' => e = .returned (.bool true) ∧ Below w.heap.size w w' := by
 by_cases hc : c.right
 ·by_cases hl : l.length ≤ 150
  ·exact Why_go c v l w hc hl hv hal
  ·refine Why_not c v l w hv (fun w => (Made_yes c (l.length : Int) w hc).mono ?_) hal
   rintro e w' ⟨wd, rfl, hb, -, -⟩
   exact ⟨⟨_, by rw [show decide ((l.length : Int) ≤ 150) = false by simp; omega]; rfl⟩, hb⟩
 ·refine Why_not c v l w hv (fun w => (Made_no c (l.length : Int) w hQ hc).mono ?_) hal
  rintro e w' ⟨rfl, hb⟩
  exact ⟨⟨_, rfl⟩, hb⟩
end Go.Proofs.YtfinmiakbpmjiaaGreat.Um
namespace Go.Proofs.YtfinmiakbpmjiaaGreat.Um
open Go Go.RowKit Go.Joins Go.WideShapes Go.ChangeShapes Go.ChangeAt Go.Deep Go.Proofs.YtfinmiakbpmjiaaGreat
section
variable {H : Type} {enc : TypeId × Value → H} {P : Program} {w : World} {base : Nat} {spare : Nat → Bool} {held : Bool}
theorem array5 {α : Type} {cs : Array α} (h : cs.size = 5) : ∃ c0 c1 c2 c3 c4, cs = #[c0, c1, c2, c3, c4] := by
 obtain ⟨l⟩ := cs
 match l, h with
 | [c0, c1, c2, c3, c4], _ => exact ⟨c0, c1, c2, c3, c4, rfl⟩
theorem open_cfg {r : Go.Reach} {b0 : Nat} {t : TypeId} {f0 f1 f2 f3 f4 : Field} {v : Value} {d : DataW H} {p : List MemPlace} (hs : P.underlying t = some (.struct #[f0, f1, f2, f3, f4])) (hone : oneCellFields P #[f0, f1, f2, f3, f4] = true) (hC : P.cellsOf t = 5) (i0 : P.underlying f0.type = some (.int .i64)) (i1 : P.underlying f1.type = some (.int .i64)) (i2 : P.underlying f2.type = some (.int .i64)) (i3 : P.underlying f3.type = some (.int .i64)) (i4 : P.underlying f4.type = some (.int .u64))
  (hv : Value.okWide P w r b0 t v) (h : DataW.Trod enc P w base spare held t v d p) : ∃ c : Cfg, v = c.val ∧ 0 ≤ c.Q := by
 obtain ⟨cs, rfl, hsz⟩ := okWide_struct hs hv
 obtain ⟨c0, c1, c2, c3, c4, rfl⟩ := array5 (hsz.trans hC)
 obtain ⟨fuel, hf⟩ := h
 obtain ⟨xs, n, _, hx, hl, hlen, hg⟩ := DataW.trod_struct hs hf
 match xs, hlen with
 | [y0, y1, y2, y3, y4], _ =>
  have h0 := hg 0 f0 rfl
  have h1 := hg 1 f1 rfl
  have h2 := hg 2 f2 rfl
  have h3 := hg 3 f3 rfl
  have h4 := hg 4 f4 rfl
  obtain ⟨o0, k0⟩ := hone_of hone 0 f0 rfl
  obtain ⟨o1, k1⟩ := hone_of hone 1 f1 rfl
  obtain ⟨o2, k2⟩ := hone_of hone 2 f2 rfl
  obtain ⟨o3, k3⟩ := hone_of hone 3 f3 rfl
  obtain ⟨o4, k4⟩ := hone_of hone 4 f4 rfl
  simp [Value.cells, o0, k0] at h0
  simp [Value.cells, o1, k1] at h1
  simp [Value.cells, o2, k2] at h2
  simp [Value.cells, o3, k3] at h3
  simp [Value.cells, o4, k4] at h4
  obtain ⟨a0, e0, _, _⟩ := DataW.trod_int i0 h0
  obtain ⟨a1, e1, _, _⟩ := DataW.trod_int i1 h1
  obtain ⟨a2, e2, _, _⟩ := DataW.trod_int i2 h2
  obtain ⟨a3, e3, _, _⟩ := DataW.trod_int i3 h3
  obtain ⟨a4, e4, _, w4⟩ := DataW.trod_int i4 h4
  simp at e0 e1 e2 e3 e4
  subst e0 e1 e2 e3 e4
  exact ⟨⟨a0, a1, a2, a3, a4⟩, rfl, (u64_bd w4).1⟩
theorem trod_act {t fuel : Nat} {f0 f1 g0 g1 g2 : Field} {cs : List Value} {x : DataW H × List MemPlace} (ht : P.underlying t = some (.struct #[f0, f1])) (hC : P.cellsOf t = 4) (q0 : f0.offset = 0) (q1 : f1.offset = 1) (z0 : P.cellsOf f0.type = 1) (z1 : P.cellsOf f1.type = 3) (i0 : P.underlying f0.type = some (.int .i64)) (hu : P.underlying f1.type = some (.struct #[g0, g1, g2]))
  (hone : oneCellFields P #[g0, g1, g2] = true) (j0 : P.underlying g0.type = some (.int .i64)) (j1 : P.underlying g1.type = some (.int .u64)) (j2 : P.underlying g2.type = some (.int .i64)) (h : DataW.trod enc P w base spare held fuel t cs = some x) : ∃ y : Ac, cs = y.cs ∧ y.h < 18446744073709551616 := by
 obtain ⟨xs, n, _, hx, hl, hlen, hg⟩ := DataW.trod_struct ht h
 rw [hC] at hl
 match cs, hl with
 | [c0, c1, c2, c3], _ =>
 match xs, hlen with
 | [y0, y1], _ =>
  have h0 := hg 0 f0 rfl
  have h1 := hg 1 f1 rfl
  simp [q0, z0] at h0
  simp [q1, z1] at h1
  obtain ⟨a0, e0, _, _⟩ := DataW.trod_int i0 h0
  obtain ⟨xs2, n2, _, hx2, hl2, hlen2, hg2⟩ := DataW.trod_struct hu h1
  match xs2, hlen2 with
  | [v0, v1, v2], _ =>
   have k0 := hg2 0 g0 rfl
   have k1 := hg2 1 g1 rfl
   have k2 := hg2 2 g2 rfl
   obtain ⟨o0, p0⟩ := hone_of hone 0 g0 rfl
   obtain ⟨o1, p1⟩ := hone_of hone 1 g1 rfl
   obtain ⟨o2, p2⟩ := hone_of hone 2 g2 rfl
   simp [o0, p0] at k0
   simp [o1, p1] at k1
   simp [o2, p2] at k2
   obtain ⟨b0, e1, _, _⟩ := DataW.trod_int j0 k0
   obtain ⟨b1, e2, _, w1⟩ := DataW.trod_int j1 k1
   obtain ⟨b2, e3, _, _⟩ := DataW.trod_int j2 k2
   simp at e0 e1 e2 e3
   subst e0 e1 e2 e3
   have hb := u64_bd w1
   refine ⟨⟨a0, b0, b1.toNat, b2⟩, ?_, ?_⟩
   ·simp only [Ac.cs, Int.toNat_of_nonneg hb.1]
   ·show b1.toNat < _
    omega
theorem acs_len : ∀ l : List Ac, (l.flatMap Ac.cs).length = l.length * 4
 | [] => rfl
 | x :: l => by
  rw [List.flatMap_cons, List.length_append, acs_len l, List.length_cons]
  show 4 + _ = _
  omega
theorem cell_lt {w : World} {a : Addr} {v : Value} (h : w.cell? a = some v) : a.block < w.heap.size := by
 by_cases hb : a.block < w.heap.size
 ·exact hb
 ·have : w.heap[a.block]? = none := Array.getElem?_eq_none (by omega)
  simp [World.cell?, this] at h
theorem acts_of {t e : TypeId} {len cap : Nat} {a : Option Addr} {d : DataW H} {p : List MemPlace} (ht : P.underlying t = some (.slice e)) (ce : P.cellsOf e = 4) (hact : ∀ fuel cs x, DataW.trod enc P w base (fun _ => true) held fuel e cs = some x → ∃ y : Ac, cs = y.cs ∧ y.h < 18446744073709551616)
  (h : DataW.Trod enc P w base (fun _ => true) held t (.slice a len cap) d p) : ∃ l : List Ac, ActsIn w (.slice a len cap) l := by
 obtain ⟨fuel, hh⟩ := h
 rcases Go.Deep.open_slice ht hh with ⟨hcs, _⟩ | ⟨x, l, c, m, n, D, Pl, hcs, _, hl, hm, hmm, _, hx⟩
 ·simp [Value.cells] at hcs
  obtain ⟨rfl, rfl, rfl⟩ := hcs
  exact ⟨[], none, 0, rfl, Re.Reads.none_, by simp⟩
 ·simp [Value.cells] at hcs
  obtain ⟨rfl, rfl, rfl⟩ := hcs
  simp only [if_true] at hmm
  have each : ∀ i, i < len → ∃ q : Ac, (∀ j u, q.cs[j]? = some u → w.cell? (x.add (i * 4 + j)) = some u) ∧ q.h < 18446744073709551616 := by
   intro i hi
   obtain ⟨cs', h1, h2⟩ := hx i (by omega)
   obtain ⟨y, rfl, hy⟩ := hact _ _ _ h2
   rw [ce] at h1
   obtain ⟨_, _, hcell⟩ := World.cells?_some h1
   refine ⟨y, fun j u hu => ?_, hy⟩
   have hj : j < 4 := (List.getElem?_eq_some_iff.1 hu).1
   rw [← add_add', hcell j hj]
   exact hu
  haveI : Inhabited Ac := ⟨⟨0, 0, 0, 0⟩⟩
  obtain ⟨q, hq⟩ := Go.Deep.choose_lt each
  refine ⟨(List.range len).map q, some x, cap, by simp, ?_, ?_⟩
  ·rw [show ((List.range len).map q).length = len by simp]
   refine ⟨?_, fun h0 => ⟨x, rfl, by have := cell_lt ((hq 0 h0).1 0 _ rfl); rwa [Re.block_of_add] at this, fun j u hu => ?_⟩⟩
   ·rw [acs_len]; simp
   ·have hj : j < len * 4 := by
     have := (List.getElem?_eq_some_iff.1 hu).1
     rw [acs_len] at this
     simpa using this
    have hk : j / 4 < ((List.range len).map q).length := by simp; omega
    have e1 := Re.flat_at Ac.cs 4 (fun _ => rfl) ((List.range len).map q) (j / 4) hk (j % 4) (by omega)
    rw [show j / 4 * 4 + j % 4 = j by omega] at e1
    rw [e1] at hu
    have e2 : ((List.range len).map q)[j / 4] = q (j / 4) := by simp
    rw [e2] at hu
    have := (hq (j / 4) (by omega)).1 _ _ hu
    rwa [show j / 4 * 4 + j % 4 = j by omega] at this
  ·intro y hy
   obtain ⟨i, hi, rfl⟩ := List.mem_map.1 hy
   exact (hq i (by simpa using hi)).2
end
end Go.Proofs.YtfinmiakbpmjiaaGreat.Um
