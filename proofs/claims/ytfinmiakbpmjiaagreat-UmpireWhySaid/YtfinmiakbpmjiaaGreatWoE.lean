/-
  The world: start, pick, do.
-/
import Derived.Test.YtfinmiakbpmjiaaGreatWoA
import Derived.Test.YtfinmiakbpmjiaaGreatPlA
import Derived.Test.YtfinmiakbpmjiaaGreatReA
import Derived.Test.YtfinmiakbpmjiaaGreatAyA
set_option linter.unusedSimpArgs false
set_option linter.unusedVariables false
set_option maxRecDepth 100000
namespace Go.Proofs.YtfinmiakbpmjiaaGreat.Um
open Go Go.RowKit Go.Proofs.YtfinmiakbpmjiaaGreat Go.Proofs.YtfinmiakbpmjiaaGreat.Ax
theorem flat_split {α β : Type} (f : α → List β) (l : List α) {i : Nat} {x : α} (h : l[i]? = some x) : l.flatMap f = (l.take i).flatMap f ++ f x ++ (l.drop (i + 1)).flatMap f := by
 obtain ⟨hi, rfl⟩ := List.getElem?_eq_some_iff.1 h
 have e : l = l.take i ++ (l[i] :: l.drop (i + 1)) := by rw [← List.drop_eq_getElem_cons hi, List.take_append_drop]
 have e2 := congrArg (List.flatMap f) e
 rw [List.flatMap_append, List.flatMap_cons] at e2
 rw [e2, List.append_assoc]
theorem modify_set {α : Type} (l : List α) (i : Nat) (g : α → α) {x : α} (h : l[i]? = some x) : l.modify i g = l.set i (g x) := by
 apply List.ext_getElem?
 intro j
 rw [List.getElem?_modify, List.getElem?_set]
 obtain ⟨hi, hx⟩ := List.getElem?_eq_some_iff.1 h
 by_cases e : i = j
 ·subst e; simp [hi, hx]
 ·simp [e]
def Ev.cs (x : Ev) : List Value := [vi x.thr, vi x.kd, vu x.h, vi x.k, vi x.a.e, vu x.a.h, vu x.a.n, vi x.bg, vi x.en, .bool x.dn]
def wkC (p : Nat × Nat) : List Value := [pt p.1, vi (p.2 : Int)]
def evArr (l : List Ev) : List Value := l.flatMap Ev.cs
theorem evArr_len (l : List Ev) : (evArr l).length = l.length * 10 := Re.flat_len Ev.cs 10 (fun _ => rfl) l
theorem wk_len (l : List (Nat × Nat)) : (l.flatMap wkC).length = l.length * 2 := Re.flat_len wkC 2 (fun _ => rfl) l
structure WAt (c : Cfg) (wd mb wb wk capw : Nat) (tb : Nat → Nat) (wl : List (Nat × Nat)) (evv : Value) (F0 : List Nat) (s : Wd) (w : World) (F : List Nat) : Prop where
 wi : WI c mb wb c.T.toNat tb ⟨s.M, s.n, s.th⟩ w F0
 box : (wdB wd mb (.slice (some ⟨wk, 0, none⟩) c.T.toNat capw) evv).holds w
 wks : ∃ sp : Array Value, w.heap[wk]? = some (.cells ((wl.flatMap wkC).toArray ++ sp) 94 (0, 0))
 wlen : wl.length = c.T.toNat
 wat : ∀ j, j < c.T.toNat → wl[j]? = some (tb j, s.at_ j)
 evs : w.ownsRow 0 70 10 evv s.evs.length (evArr s.evs)
 far : wd ≠ wk ∧ wd ∉ F0 ∧ wk ∉ F0 ∧ ∀ g, evv.ownBlock = some g → g ≠ wd ∧ g ≠ wk ∧ g ∉ F0
 foot : F = wd :: wk :: (evv.ownBlock.toList ++ F0)
 lt : ∀ b ∈ F0, b < w.heap.size
def WorldAt (c : Cfg) (wd : Nat) (s : Wd) (w : World) (F : List Nat) : Prop := ∃ mb wb wk capw tb wl evv F0, WAt c wd mb wb wk capw tb wl evv F0 s w F
theorem row_lt {w : World} {b : Nat} {e : TypeId} {size n : Nat} {v : Value} {xs : List Value} (h : w.ownsRow b e size v n xs) {g : Nat} (hg : v.ownBlock = some g) : g < w.heap.size := by
 rcases h.2 with ⟨rfl, _⟩ | ⟨g', cap, cur, rfl, _, h5, _⟩
 ·simp [Value.ownBlock] at hg
 ·have : g' = g := by simpa [Value.ownBlock] using hg
  subst this
  exact blk_lt h5
theorem row_keep {w w' : World} {b : Nat} {e : TypeId} {size n : Nat} {v : Value} {xs : List Value} (h : w.ownsRow b e size v n xs) (hk : ∀ g, v.ownBlock = some g → w'.heap[g]? = w.heap[g]?) : w'.ownsRow b e size v n xs := by
 refine ⟨h.1, ?_⟩
 rcases h.2 with ⟨rfl, h0⟩ | ⟨g', cap, cur, rfl, h4, h5, h6⟩
 ·exact .inl ⟨rfl, h0⟩
 ·exact .inr ⟨g', cap, cur, rfl, h4, by rw [hk g' (by simp [Value.ownBlock])]; exact h5, h6⟩
section
variable {c : Cfg} {wd mb wb wk capw : Nat} {tb : Nat → Nat} {wl : List (Nat × Nat)} {evv : Value} {F0 F : List Nat} {s : Wd} {w w' : World}
theorem WAt.mem (h : WAt c wd mb wb wk capw tb wl evv F0 s w F) : wd ∈ F ∧ wk ∈ F ∧ (∀ g, evv.ownBlock = some g → g ∈ F) ∧ ∀ b ∈ F0, b ∈ F := by
 rw [h.foot]
 refine ⟨by simp, by simp, fun g hg => by simp [hg], fun b hb => by simp [hb]⟩
theorem WAt.all_lt (h : WAt c wd mb wb wk capw tb wl evv F0 s w F) : ∀ b ∈ F, b < w.heap.size := by
 intro b hb
 rw [h.foot] at hb
 simp only [List.mem_cons, List.mem_append, Option.mem_toList] at hb
 rcases hb with rfl | rfl | hb | hb
 ·exact holds_lt h.box
 ·obtain ⟨sp, h1⟩ := h.wks; exact blk_lt h1
 ·exact row_lt h.evs hb
 ·exact h.lt b hb
theorem WAt.keep (h : WAt c wd mb wb wk capw tb wl evv F0 s w F) {L : List Nat} (k : Only L w w') (hF : ∀ b ∈ F, b ∉ L) : WAt c wd mb wb wk capw tb wl evv F0 s w' F := by
 obtain ⟨m1, m2, m3, m4⟩ := h.mem
 obtain ⟨sp, hw⟩ := h.wks
 exact ⟨h.wi.stable k fun x hx => hF x (m4 x hx), holds_only h.box k (hF _ m1), ⟨sp, k.blk (hF _ m2) hw⟩, h.wlen, h.wat, row_keep h.evs fun g hg => k.block g (row_lt h.evs hg) (hF g (m3 g hg)), h.far, h.foot, fun b hb => Nat.lt_of_lt_of_le (h.lt b hb) k.size⟩
theorem WorldAt.keep (h : WorldAt c wd s w F) {L : List Nat} (k : Only L w w') (hF : ∀ b ∈ F, b ∉ L) : WorldAt c wd s w' F := by
 obtain ⟨mb, wb, wk, capw, tb, wl, evv, F0, h⟩ := h
 exact ⟨mb, wb, wk, capw, tb, wl, evv, F0, h.keep k hF⟩
theorem WorldAt.all_lt (h : WorldAt c wd s w F) : ∀ b ∈ F, b < w.heap.size := by
 obtain ⟨mb, wb, wk, capw, tb, wl, evv, F0, h⟩ := h
 exact h.all_lt
theorem WAt.rel (h : WAt c wd mb wb wk capw tb wl evv F0 s w F) {hp : List Blk} (hn : (hp.map (·.b)).Nodup) (hh : ∀ x ∈ hp, x.holds w) (hb : ∀ x ∈ hp, x.b ∉ F0) : Rel0 (sideW c mb wb c.T.toNat tb) (hp.map (·.b) ++ F0) w ⟨hp, ⟨s.M, s.n, s.th⟩, []⟩ w :=
 ⟨⟨hn, hh⟩, ⟨F0, h.wi, hb, fun b hb' => ⟨h.lt b hb', .inl (List.mem_append_right _ hb')⟩⟩, .of (Below.refl _ _), fun x hx => .inl (List.mem_append_left _ (List.mem_map.2 ⟨x, hx, rfl⟩)), List.nil_prefix, by simp, by simp⟩
end
def wstepZ (c : Cfg) (s : Wd) (id : Int) : Bool × Wd := if 0 ≤ id ∧ id < c.T then wstep c s id.toNat else (false, s)
theorem isIdle_eq (s : TSt) : s.isIdle = isIdle s := by cases s <;> rfl
def WCall (c : Cfg) (wd : Nat) (f : FuncId) (args : Array Value) (w : World) (F : List Nat) (v : Value) (s' : Wd) : Prop :=
 Calls Tryz.prog f args w fun e w' => e = .returned v ∧ ∃ F', WorldAt c wd s' w' F' ∧ Only F w w' ∧ ∀ b ∈ F', b ∈ F ∨ w.heap.size ≤ b
section
variable {c : Cfg} {wd mb wb wk capw : Nat} {tb : Nat → Nat} {wl : List (Nat × Nat)} {evv : Value} {F0 F : List Nat} {s : Wd} {w w' : World}
theorem WAt.back (h : WAt c wd mb wb wk capw tb wl evv F0 s w F) {hp hp0 : List Blk} {e : WE} (hr : Rel0 (sideW c mb wb c.T.toNat tb) (hp0.map (·.b) ++ F0) w ⟨hp, e, []⟩ w') (hnm : hp.map (·.b) = hp0.map (·.b)) (hin : ∀ b ∈ hp0.map (·.b), b ∈ F) {s' : Wd} (h1 : e = ⟨s'.M, s'.n, s'.th⟩) (h2 : s'.at_ = s.at_)
  (hbox : (wdB wd mb (.slice (some ⟨wk, 0, none⟩) c.T.toNat capw) evv).holds w') (hwk : ∃ sp : Array Value, w'.heap[wk]? = some (.cells ((wl.flatMap wkC).toArray ++ sp) 94 (0, 0))) (hev : w'.ownsRow 0 70 10 evv s'.evs.length (evArr s'.evs)) :
  ∃ F', WorldAt c wd s' w' F' ∧ Only F w w' ∧ ∀ b ∈ F', b ∈ F ∨ w.heap.size ≤ b := by
 subst h1
 obtain ⟨F1, hf⟩ := hr.side
 obtain ⟨m1, m2, m3, m4⟩ := h.mem
 have hF1 : ∀ b ∈ F1, b ∈ F0 ∨ w.heap.size ≤ b := by
  intro b hb
  rcases (hf.foot b hb).2 with h3 | h3
  ·rcases List.mem_append.1 h3 with h4 | h4
   ·rw [← hnm] at h4
    obtain ⟨x, hx, rfl⟩ := List.mem_map.1 h4
    exact (hf.apart x hx hb).elim
   ·exact .inl h4
  ·exact .inr h3
 have hnot : ∀ b, b ∈ F → b ∉ F0 → b ∉ F1 := by
  intro b hb hb0 hb1
  have := h.all_lt b hb
  rcases hF1 b hb1 with h3 | h3
  ·exact hb0 h3
  ·omega
 refine ⟨_, ⟨mb, wb, wk, capw, tb, wl, evv, F1, hf.inv, hbox, hwk, h.wlen, fun j hj => by rw [h2]; exact h.wat j hj, hev, ⟨h.far.1, hnot _ m1 h.far.2.1, hnot _ m2 h.far.2.2.1, fun g hg' => ⟨(h.far.2.2.2 g hg').1, (h.far.2.2.2 g hg').2.1, hnot _ (m3 g hg') (h.far.2.2.2 g hg').2.2⟩⟩, rfl, fun b hb => (hf.foot b hb).1⟩, hr.only.wide fun b hb => ?_, fun b hb => ?_⟩
 ·rcases List.mem_append.1 hb with h3 | h3
  ·exact hin b h3
  ·exact m4 b h3
 ·simp only [List.mem_cons, List.mem_append, Option.mem_toList] at hb
  rcases hb with rfl | rfl | hb | hb
  ·exact .inl m1
  ·exact .inl m2
  ·exact .inl (m3 b hb)
  ·exact (hF1 b hb).imp (m4 b) id
end
def wkBk (wk k : Nat) (tb : Nat → Nat) (wl : List (Nat × Nat)) (ev : Nat) (sp : Array Value) : Blk := wkB wk ((wl.take k).flatMap wkC).toArray (tb k) (ev : Int) (((wl.drop (k + 1)).flatMap wkC).toArray ++ sp)
def evBk (eb i : Nat) (l : List Ev) (x : Ev) (sp : Array Value) : Blk := evB eb (evArr (l.take i)).toArray x.thr x.kd x.h x.k x.a.e x.a.h x.a.n x.bg x.en x.dn ((evArr (l.drop (i + 1))).toArray ++ sp)
section
variable {c : Cfg} {wd mb wb wk capw : Nat} {tb : Nat → Nat} {wl : List (Nat × Nat)} {evv : Value} {F0 F : List Nat} {s : Wd} {w w' : World}
theorem wk_holds {k ev : Nat} {sp : Array Value} (hl : wl[k]? = some (tb k, ev)) : (wkBk wk k tb wl ev sp).holds w ↔ w.heap[wk]? = some (.cells ((wl.flatMap wkC).toArray ++ sp) 94 (0, 0)) := by
 have e : (wkBk wk k tb wl ev sp).cs.arr = (wl.flatMap wkC).toArray ++ sp := by
  rw [flat_split wkC wl hl]
  apply Array.ext'
  simp [wkBk, wkB, Cells.arr, wkC]
 constructor
 ·rintro ⟨rest, h1, h2⟩
  have h3 : rest = #[] := h2
  subst h3
  rw [e, Array.append_empty] at h1
  exact h1
 ·intro h
  exact ⟨#[], by rw [e, Array.append_empty]; exact h, rfl⟩
theorem ev_holds {eb i : Nat} {l : List Ev} {x : Ev} {sp : Array Value} (hl : l[i]? = some x) : (evBk eb i l x sp).holds w ↔ w.heap[eb]? = some (.cells ((evArr l).toArray ++ sp) 70 (0, 0)) := by
 have e : (evBk eb i l x sp).cs.arr = (evArr l).toArray ++ sp := by
  unfold evArr
  rw [flat_split Ev.cs l hl]
  apply Array.ext'
  simp [evBk, evB, Cells.arr, Ev.cs, evArr]
 constructor
 ·rintro ⟨rest, h1, h2⟩
  have h3 : rest = #[] := h2
  subst h3
  rw [e, Array.append_empty] at h1
  exact h1
 ·intro h
  exact ⟨#[], by rw [e, Array.append_empty]; exact h, rfl⟩
theorem row_open {n : Nat} {evv : Value} {xs : List Value} (h : w.ownsRow 0 70 10 evv n xs) (hn : 0 < n) : ∃ (eb cap : Nat) (sp : Array Value), evv = .slice (some ⟨eb, 0, none⟩) n cap ∧ w.heap[eb]? = some (.cells (xs.toArray ++ sp) 70 (0, 0)) ∧ n ≤ cap ∧ cap ≤ maxLen ∧ xs.length + sp.size = cap * 10 := by
 rcases h.2 with ⟨_, h0⟩ | ⟨g, cap, cur, rfl, _, h5, h6, h7, h8, h9⟩
 ·omega
 ·have h10 := h.1
  have h11 : n * 10 ≤ cap * 10 := Nat.mul_le_mul_right _ h6
  refine ⟨g, cap, (cur.toList.drop (n * 10)).toArray, rfl, ?_, h6, h7, ?_⟩
  ·rw [h5]
   congr 2
   apply Array.ext'
   rw [← h9]
   simp
  ·simp [h10, h8]; omega
theorem row_shut {n eb cap : Nat} {sp : Array Value} {xs : List Value} (h1 : w.heap[eb]? = some (.cells (xs.toArray ++ sp) 70 (0, 0))) (h2 : n ≤ cap) (h3 : cap ≤ maxLen) (h4 : xs.length + sp.size = cap * 10) (h5 : xs.length = n * 10) : w.ownsRow 0 70 10 (.slice (some ⟨eb, 0, none⟩) n cap) n xs := by
 refine ⟨h5, .inr ⟨eb, cap, _, rfl, Nat.zero_le _, h1, h2, h3, by simpa using h4, ?_⟩⟩
 rw [← h5]
 simp
theorem step_ev_other {x : Ev} {n : Nat} {st : TSt} (h : isIdle st = false) : evStep n st x = { x with bg := if x.bg = 0 then n else x.bg } := by
 cases st with
 | idle a => cases h
 | _ => rfl
theorem same_bg (x : Ev) (h : x.bg ≠ 0) (n : Nat) : ({ x with bg := if x.bg = 0 then n else x.bg } : Ev) = x := by
 cases x; simp_all
theorem ans_of {st : TSt} (h : isIdle st = true) : st = .idle st.ans := by
 cases st <;> first | rfl | cases h
set_option maxHeartbeats 1000000 in
theorem step_any (h : WorldAt c wd s w F) (hst : Str c s) (hn : s.n < 1000000000) (id : Int) : WCall c wd 35 #[pt wd, vi id] w F (.bool (wstepZ c s id).1) (wstepZ c s id).2 := by
 obtain ⟨mb, wb, wk, capw, tb, wl, evv, F0, h⟩ := h
 obtain ⟨m1, m2, m3, m4⟩ := h.mem
 have hright : c.right := h.wi.1.right
 have hT : ((c.T.toNat : Nat) : Int) = c.T := by
  obtain ⟨a1, a2, _⟩ := hright
  omega
 have nowhere : (wstepZ c s id) = (false, s) → (∀ hp : List Blk, hp = [wdB wd mb (.slice (some ⟨wk, 0, none⟩) c.T.toNat capw) evv] → RunsW c mb wb c.T.toNat tb 35 #[pt wd, vi id] hp ⟨s.M, s.n, s.th⟩ fun v hp' e' => v = .bool false ∧ hp' = hp ∧ e' = ⟨s.M, s.n, s.th⟩) → WCall c wd 35 #[pt wd, vi id] w F (.bool (wstepZ c s id).1) (wstepZ c s id).2 := by
  intro hz hrun
  rw [hz]
  refine (hrun _ rfl _ _ _ (h.rel (by simp) (by simpa using h.box) (by intro x hx; simp at hx; subst hx; exact h.far.2.1))).mono ?_
  rintro en w' ⟨v, hp', e', rfl, ⟨rfl, rfl, rfl⟩, hr⟩
  obtain ⟨sp, hwk⟩ := h.wks
  have hne : ∀ b, b ∈ F → b ≠ wd → b ∉ F0 → b ∉ ([wdB wd mb (.slice (some ⟨wk, 0, none⟩) c.T.toNat capw) evv].map (·.b)) ++ F0 := by
   intro b _ h1 h2
   simp [wdB, h1, h2]
  exact ⟨rfl, h.back hr rfl (by simpa [wdB] using m1) rfl rfl (hr.has.each _ (by simp)) ⟨sp, hr.only.blk (hne wk m2 (Ne.symm h.far.1) h.far.2.2.1) hwk⟩ (row_keep h.evs fun g hg => hr.only.block g (row_lt h.evs hg) (hne g (m3 g hg) (h.far.2.2.2 g hg).1 (h.far.2.2.2 g hg).2.2))⟩
 by_cases h0 : ¬ 0 ≤ id
 ·exact nowhere (by unfold wstepZ; rw [if_neg (by omega)]) fun hp e => by
   subst e
   exact step_below _ _ _ _ _ _ _ 0 _ _ _ _ ⟨by simp; omega, trivial⟩
 have h0 := Decidable.not_not.1 h0
 by_cases h1 : ¬ id < c.T
 ·exact nowhere (by unfold wstepZ; rw [if_neg (by omega)]) fun hp e => by
   subst e
   exact step_above _ _ _ _ _ _ _ 0 _ _ _ _ ⟨by simp; omega, by simp; omega, trivial⟩
 have h1 := Decidable.not_not.1 h1
 obtain ⟨k, rfl⟩ : ∃ k : Nat, id = (k : Int) := ⟨id.toNat, by omega⟩
 have hk : k < c.T.toNat := by omega
 have hwl := h.wat k hk
 obtain ⟨sp, hwk⟩ := h.wks
 have hz : wstepZ c s (k : Int) = wstep c s k := by unfold wstepZ; rw [if_pos ⟨h0, h1⟩]; rfl
 rw [hz]
 have hpre : (((wl.take k).flatMap wkC).toArray).size = k * 2 := by
  have := wk_len (wl.take k)
  have hl := h.wlen
  simp only [List.size_toArray, this, List.length_take]
  omega
 cases hid : isIdle (s.th k) with
 | true =>
  have hw : wstep c s k = (false, s) := by unfold wstep; rw [if_pos hid]
  rw [hw]
  have hhp : ∀ x ∈ [wdB wd mb (.slice (some ⟨wk, 0, none⟩) c.T.toNat capw) evv, wkBk wk k tb wl (s.at_ k) sp], x.holds w := by
   intro x hx
   simp only [List.mem_cons, List.not_mem_nil, or_false] at hx
   rcases hx with rfl | rfl
   ·exact h.box
   ·exact (wk_holds hwl).2 hwk
  refine (step_rests c mb wb c.T.toNat tb wd wk k (k : Int) capw ((wl.take k).flatMap wkC).toArray (((wl.drop (k + 1)).flatMap wkC).toArray ++ sp) (s.at_ k : Int) evv ⟨s.M, s.n, s.th⟩ ⟨by simp, by simp; omega, by omega, by omega, by rw [hpre]; simp, hk, by rw [isIdle_eq]; exact hid, trivial⟩ _ _ _ (h.rel (by simpa [wdB, wkB] using h.far.1) hhp (by intro x hx; simp at hx; rcases hx with rfl | rfl; exact h.far.2.1; exact h.far.2.2.1))).mono ?_
  rintro en w' ⟨v, hp', e', rfl, ⟨rfl, rfl, rfl⟩, hr⟩
  have hne : ∀ g, evv.ownBlock = some g → g ∉ ([wdB wd mb (.slice (some ⟨wk, 0, none⟩) c.T.toNat capw) evv, wkB wk ((wl.take k).flatMap wkC).toArray (tb k) (s.at_ k : Int) (((wl.drop (k + 1)).flatMap wkC).toArray ++ sp)].map (·.b)) ++ F0 := by
   intro g hg
   obtain ⟨k1, k2, k3⟩ := h.far.2.2.2 g hg
   simp [wdB, wkB, k1, k2, k3]
  exact ⟨rfl, h.back hr rfl (by intro b hb; simp [wdB, wkB] at hb; rcases hb with rfl | rfl; exact m1; exact m2) rfl rfl (hr.has.each _ (by simp)) ⟨sp, (wk_holds hwl).1 (hr.has.each _ (by simp [wkBk]))⟩ (row_keep h.evs fun g hg => hr.only.block g (row_lt h.evs hg) (hne g hg))⟩
 | false =>
  obtain ⟨ev, hev, hdn, hthr⟩ := hst.at_ k h1 hid
  have hlen : s.at_ k < s.evs.length := (List.getElem?_eq_some_iff.1 hev).1
  obtain ⟨eb, cape, spe, hevv, hrow, hc1, hc2, hc3⟩ := row_open h.evs (by omega)
  subst hevv
  obtain ⟨k1, k2, k3⟩ := h.far.2.2.2 eb (by simp [Value.ownBlock])
  have hpree : ((evArr (s.evs.take (s.at_ k))).toArray).size = s.at_ k * 10 := by
   simp only [List.size_toArray, evArr_len, List.length_take]
   omega
  have hsok : StepOK c ⟨s.M, s.n, s.th⟩ k := ⟨hright, hst.mem, hn, h1, hst.tok k h1⟩
  have hw : wstep c s k = (true, ⟨upd s.M (tstep c k s.M (s.th k)).1.1 (tstep c k s.M (s.th k)).1.2, s.n + 1, setF s.th k (tstep c k s.M (s.th k)).2, s.at_, s.evs.modify (s.at_ k) (evStep (s.n + 1) (tstep c k s.M (s.th k)).2)⟩) := by
   unfold wstep; rw [if_neg (by rw [hid]; simp)]
  rw [hw]
  have hhp : ∀ x ∈ [wdB wd mb (.slice (some ⟨wk, 0, none⟩) c.T.toNat capw) (.slice (some ⟨eb, 0, none⟩) s.evs.length cape), wkBk wk k tb wl (s.at_ k) sp, evBk eb (s.at_ k) s.evs ev spe], x.holds w := by
   intro x hx
   simp only [List.mem_cons, List.not_mem_nil, or_false] at hx
   rcases hx with rfl | rfl | rfl
   ·exact h.box
   ·exact (wk_holds hwl).2 hwk
   ·exact (ev_holds hev).2 hrow
  have hrel := h.rel (hp := [wdB wd mb (.slice (some ⟨wk, 0, none⟩) c.T.toNat capw) (.slice (some ⟨eb, 0, none⟩) s.evs.length cape), wkBk wk k tb wl (s.at_ k) sp, evBk eb (s.at_ k) s.evs ev spe]) (by
   show [wd, wk, eb].Nodup
   have := h.far.1
   simp [this, Ne.symm k1, Ne.symm k2]) hhp (by intro x hx; simp at hx; rcases hx with rfl | rfl | rfl; exact h.far.2.1; exact h.far.2.2.1; exact k3)
  have fin : ∀ {w' : World} {hp' : List Blk} {x' : Ev}, Rel0 (sideW c mb wb c.T.toNat tb) ([wd, wk, eb] ++ F0) w ⟨hp', stepE c ⟨s.M, s.n, s.th⟩ k, []⟩ w' → hp' = [wdB wd mb (.slice (some ⟨wk, 0, none⟩) c.T.toNat capw) (.slice (some ⟨eb, 0, none⟩) s.evs.length cape), wkBk wk k tb wl (s.at_ k) sp, evBk eb (s.at_ k) s.evs x' spe] → evStep (s.n + 1) (tstep c k s.M (s.th k)).2 ev = x' →
    ∃ F', WorldAt c wd ⟨upd s.M (tstep c k s.M (s.th k)).1.1 (tstep c k s.M (s.th k)).1.2, s.n + 1, setF s.th k (tstep c k s.M (s.th k)).2, s.at_, s.evs.modify (s.at_ k) (evStep (s.n + 1) (tstep c k s.M (s.th k)).2)⟩ w' F' ∧ Only F w w' ∧ ∀ b ∈ F', b ∈ F ∨ w.heap.size ≤ b := by
   rintro w' hp' x' hr rfl hx'
   have hm : s.evs.modify (s.at_ k) (evStep (s.n + 1) (tstep c k s.M (s.th k)).2) = s.evs.set (s.at_ k) x' := by rw [modify_set _ _ _ hev, hx']
   have hset : (s.evs.set (s.at_ k) x')[s.at_ k]? = some x' := List.getElem?_set_self hlen
   refine h.back (hp0 := [wdB wd mb (.slice (some ⟨wk, 0, none⟩) c.T.toNat capw) (.slice (some ⟨eb, 0, none⟩) s.evs.length cape), wkBk wk k tb wl (s.at_ k) sp, evBk eb (s.at_ k) s.evs ev spe]) hr rfl ?_ rfl rfl (hr.has.each _ (by simp)) ⟨sp, (wk_holds hwl).1 (hr.has.each _ (by simp))⟩ ?_
   ·intro b hb
    simp [wdB, wkBk, wkB, evBk, evB] at hb
    rcases hb with rfl | rfl | rfl
    ·exact m1
    ·exact m2
    ·exact m3 _ (by simp [Value.ownBlock])
   ·simp only [hm, List.length_set]
    have he : evBk eb (s.at_ k) (s.evs.set (s.at_ k) x') x' spe = evBk eb (s.at_ k) s.evs x' spe := by
     unfold evBk
     rw [List.take_set_of_le (Nat.le_refl _), List.drop_set_of_lt (by omega)]
    have h6 := (ev_holds hset).1 (he ▸ hr.has.each (evBk eb (s.at_ k) s.evs x' spe) (by simp))
    have hl2 : (evArr (s.evs.set (s.at_ k) x')).length = (evArr s.evs).length := by rw [evArr_len, evArr_len, List.length_set]
    exact row_shut h6 hc1 hc2 (by rw [hl2]; exact hc3) (by rw [evArr_len, List.length_set])
  have ask2 : (decide ((k : Int) ≥ 0)) = true ∧ (!decide ((k : Int) < ((c.T.toNat : Nat) : Int))) = false := ⟨by simp, by simp; omega⟩
  have a5 : (k : Int).toNat * 2 = ((wl.take k).flatMap wkC).toArray.size := by rw [hpre]; simp
  have e8 : ∀ i, ((s.at_ k : Nat) : Int).toNat * 10 + i = (evArr (s.evs.take (s.at_ k))).toArray.size + i := by intro i; rw [hpree]; simp
  have a0 : (0 : Int) ≤ (k : Int) := by omega
  have a1 : (k : Int) < ((c.T.toNat : Nat) : Int) := by omega
  have a2 : (0 : Int) ≤ ((s.at_ k : Nat) : Int) := by omega
  have a3 : ((s.at_ k : Nat) : Int) < ((s.evs.length : Nat) : Int) := by omega
  have hst2 : (stepE c ⟨s.M, s.n, s.th⟩ k).th k = (tstep c k s.M (s.th k)).2 := if_pos rfl
  have hi1 : (s.th k).isIdle = false := by rw [isIdle_eq]; exact hid
  cases hid2 : isIdle (tstep c k s.M (s.th k)).2 with
  | false =>
   have hi2 : ((stepE c ⟨s.M, s.n, s.th⟩ k).th k).isIdle = false := by rw [hst2, isIdle_eq]; exact hid2
   by_cases hb : ev.bg = 0
   ·refine (step_goes_first c mb wb c.T.toNat tb wd wk eb k (k : Int) capw _ _ (s.at_ k : Int) s.evs.length cape _ _ ev.thr ev.kd ev.h ev.k ev.a.e ev.a.h ev.a.n ev.bg ev.en ev.dn ⟨s.M, s.n, s.th⟩ ⟨ask2.1, ask2.2, a0, a1, a5, hk, hi1, hsok, a0, a1, a5, by omega, a2, a3, e8 7, by simp [hb], e8 7, hk, hi2, trivial⟩ _ _ _ hrel).mono ?_
    rintro en w' ⟨v, hp', e', rfl, ⟨rfl, rfl, rfl⟩, hr⟩
    refine ⟨rfl, fin (x' := { ev with bg := s.n + 1 }) hr rfl ?_⟩
    rw [step_ev_other hid2, if_pos hb]
   ·refine (step_goes c mb wb c.T.toNat tb wd wk eb k (k : Int) capw _ _ (s.at_ k : Int) s.evs.length cape _ _ ev.thr ev.kd ev.h ev.k ev.a.e ev.a.h ev.a.n ev.bg ev.en ev.dn ⟨s.M, s.n, s.th⟩ ⟨ask2.1, ask2.2, a0, a1, a5, hk, hi1, hsok, a0, a1, a5, by omega, a2, a3, e8 7, by simp; omega, hk, hi2, trivial⟩ _ _ _ hrel).mono ?_
    rintro en w' ⟨v, hp', e', rfl, ⟨rfl, rfl, rfl⟩, hr⟩
    refine ⟨rfl, fin (x' := ev) hr rfl ?_⟩
    rw [step_ev_other hid2, same_bg _ hb]
  | true =>
   have hi2 : ((stepE c ⟨s.M, s.n, s.th⟩ k).th k).isIdle = true := by rw [hst2, isIdle_eq]; exact hid2
   have hans := ans_of hid2
   by_cases hb : ev.bg = 0
   ·refine (step_ends_first c mb wb c.T.toNat tb wd wk eb k (k : Int) capw _ _ (s.at_ k : Int) s.evs.length cape _ _ ev.thr ev.kd ev.h ev.k ev.a.e ev.a.h ev.a.n ev.bg ev.en ev.dn ⟨s.M, s.n, s.th⟩ ⟨ask2.1, ask2.2, a0, a1, a5, hk, hi1, hsok, a0, a1, a5, by omega, a2, a3, e8 7, by simp [hb], e8 7, hk, hi2, hk, hi2, e8 8, e8 4, e8 5, e8 6, e8 9, trivial⟩ _ _ _ hrel).mono ?_
    rintro en w' ⟨v, hp', e', rfl, ⟨rfl, rfl, rfl⟩, hr⟩
    refine ⟨rfl, fin (x' := { ev with bg := s.n + 1, a := (tstep c k s.M (s.th k)).2.ans, en := s.n + 1, dn := true }) hr (by rw [hst2]; rfl) ?_⟩
    rw [hans]
    show evStep (s.n + 1) (.idle _) ev = _
    unfold evStep
    simp only [if_pos hb]
    rw [← hans]
   ·refine (step_ends c mb wb c.T.toNat tb wd wk eb k (k : Int) capw _ _ (s.at_ k : Int) s.evs.length cape _ _ ev.thr ev.kd ev.h ev.k ev.a.e ev.a.h ev.a.n ev.bg ev.en ev.dn ⟨s.M, s.n, s.th⟩ ⟨ask2.1, ask2.2, a0, a1, a5, hk, hi1, hsok, a0, a1, a5, by omega, a2, a3, e8 7, by simp; omega, hk, hi2, hk, hi2, e8 8, e8 4, e8 5, e8 6, e8 9, trivial⟩ _ _ _ hrel).mono ?_
    rintro en w' ⟨v, hp', e', rfl, ⟨rfl, rfl, rfl⟩, hr⟩
    refine ⟨rfl, fin (x' := { ev with a := (tstep c k s.M (s.th k)).2.ans, en := s.n + 1, dn := true }) hr (by rw [hst2]; rfl) ?_⟩
    rw [hans]
    show evStep (s.n + 1) (.idle _) ev = _
    unfold evStep
    simp only [if_neg hb]
    rw [← hans]
end
end Go.Proofs.YtfinmiakbpmjiaaGreat.Um
namespace Go.Proofs.YtfinmiakbpmjiaaGreat.Ay
open Go Go.RowKit Go.Proofs.YtfinmiakbpmjiaaGreat
theorem mixed : Tryz.prog.follows .mixedOrders = true := by kernel_rfl
def side0 : Side := { E := Unit, I := fun _ _ F => F = [], stable := fun _ _ _ _ _ h _ _ => h }
def ExtOK (S : Side) (g : FuncId) (x : Array Value → St S.E → Tree (Value × St S.E)) : Prop :=
 ∀ L w0 pr PN args s w Q, (x args s).sat Q → Rel S L w0 pr PN s w → Calls Tryz.prog g args w fun e w' => ∃ v s', e = .returned v ∧ Q (v, s') ∧ Rel S L w0 pr PN s' w'
def look {α : Type} : List (FuncId × α) → FuncId → Option α
 | [], _ => none
 | (g, x) :: r, f => match Nat.beq f g with
  | true => some x
  | false => look r f
theorem look_mem {α : Type} {l : List (FuncId × α)} {f : FuncId} {x : α} (h : look l f = some x) : (f, x) ∈ l := by
 induction l with
 | nil => cases h
 | cons p r ih =>
  obtain ⟨g, y⟩ := p
  unfold look at h
  split at h
  ·rename_i e
   cases h
   rw [Nat.eq_of_beq_eq_true e]
   exact List.mem_cons_self
  ·exact List.mem_cons_of_mem _ (ih h)
def extOf (S : Side) (l : List (FuncId × (Array Value → St S.E → Tree (Value × St S.E)))) (h : ∀ p ∈ l, ExtOK S p.1 p.2) : Ext S Tryz.prog := { f := look l, ok := fun g x hx => h (g, x) (look_mem hx) }
theorem arr_of {args : Array Value} {l : List Value} (h : args.toList = l) : args = l.toArray := by apply Array.ext'; simpa using h
def RunsY (S : Side) (f : FuncId) (args : Array Value) (hp : List Blk) (e : S.E) (R : Value → List Blk → S.E → Prop) : Prop :=
 ∀ L w0 w, Rel0 S L w0 ⟨hp, e, []⟩ w → Calls Tryz.prog f args w fun en w' => ∃ v hp' e', en = .returned v ∧ R v hp' e' ∧ Rel0 S L w0 ⟨hp', e', []⟩ w'
noncomputable def runY {S : Side} (X : Ext S Tryz.prog) (f : FuncId) (args : Array Value) (hp : List Blk) (e : S.E) (o : List Nat) (br : List Bool) (gs : Nat → Nat) : Option (Out (Value × St S.E)) :=
 (bodyT Tryz.prog X.f 40 30 ⟨0, []⟩ f args ⟨hp, e, o⟩).close gs br 0
theorem runsY_both {S : Side} (X : Ext S Tryz.prog) {f : FuncId} {args : Array Value} {hp : List Blk} {e : S.E} {R : Value → List Blk → S.E → Prop} (o : List Nat) (is : List Bool → List Nat) (v : List Bool → (Nat → Nat) → Value) (bl : List Bool → (Nat → Nat) → List Blk) (e' : (Nat → Nat) → S.E) (cs : (Nat → Nat) → List Prop)
  (h : ∀ br gs, check (is br) (runY X f args hp e o br gs) = some (v br gs, (bl br gs).map some, e' gs, cs gs, rights (runY X f args hp e o br gs)))
  (hn : ∀ br, (is br).Nodup) (hc : ∀ gs, all (cs gs)) (hR : ∀ br gs, R (v br gs) (bl br gs) (e' gs)) : RunsY S f args hp e R := by
 intro L w0 w hr
 refine (calls_of_check (X := X) mixed is v bl (fun _ => e') (fun _ => cs) h (fun _ => hc) hn (hr.orc o)).mono ?_
 rintro en w' ⟨br, gs, rfl, hr'⟩
 exact ⟨_, _, _, rfl, hR br gs, hr'⟩
theorem runsY_of {S : Side} (X : Ext S Tryz.prog) {f : FuncId} {args : Array Value} {hp : List Blk} {e : S.E} {R : Value → List Blk → S.E → Prop} (o is : List Nat) (v : (Nat → Nat) → Value) (bl : (Nat → Nat) → List Blk) (e' : (Nat → Nat) → S.E) (cs : (Nat → Nat) → List Prop)
  (h : ∀ br gs, check is (runY X f args hp e o br gs) = some (v gs, (bl gs).map some, e' gs, cs gs, rights (runY X f args hp e o br gs)))
  (hn : is.Nodup) (hc : ∀ gs, all (cs gs)) (hR : ∀ gs, R (v gs) (bl gs) (e' gs)) : RunsY S f args hp e R :=
 runsY_both X o (fun _ => is) (fun _ => v) (fun _ => bl) e' cs h (fun _ => hn) hc (fun _ => hR)
open Um in
def sideY (c : Cfg) (mb wb nt : Nat) (tb : Nat → Nat) : Side := { E := WE, I := WI c mb wb nt tb, stable := fun e w w' L F h k hF => h.stable k hF }
section
open Um
def startY (c : Cfg) (mb wb nt : Nat) (tb : Nat → Nat) (k : Nat) : Array Value → St (sideY c mb wb nt tb).E → Tree (Value × St (sideY c mb wb nt tb).E) := fun args s => match args.toList with
 | [.pointer (some ⟨b, 0, none⟩), .agg cs] => match cs.toList with
  | [.int .i64 kd, .int .u64 h, .int .i64 kk] => .same b (tb k) (.ask (k < nt) (.ask (0 ≤ h ∧ h < 18446744073709551616) (tested (tstart c kd h.toNat kk (s.e.th k)).1 s fun b s => match b with
   | false => .done (.bool false, s)
   | true => .done (.bool true, { s with e := ⟨s.e.M, s.e.n, setTh s.e.th k (tstart c kd h.toNat kk (s.e.th k)).2⟩ }))))
  | _ => .fail
 | _ => .fail
theorem start_no {c : Cfg} {kd : Int} {h : Nat} {k : Int} {st : TSt} (e : (tstart c kd h k st).1 = false) : (tstart c kd h k st).2 = st := by
 cases st with
 | idle a =>
  unfold tstart at e ⊢
  simp only at e ⊢
  split at e
  ·cases e
  ·rename_i h; rw [if_neg h]
 | _ => rfl
theorem startY_ok {c : Cfg} {mb wb nt : Nat} {tb : Nat → Nat} {k : Nat} : ExtOK (sideY c mb wb nt tb) 34 (startY c mb wb nt tb k) := by
 intro L w0 pr PN args s w Q h hr
 unfold startY at h
 split at h
 ·rename_i b cs hargs
  split at h
  ·rename_i kd hh kk hcs
   obtain ⟨rfl, hk, h64, h⟩ := h
   obtain ⟨F, hfo⟩ := hr.side
   have hF := fun b hb => (hfo.foot b hb).1
   have e64 : hh = ((hh.toNat : Nat) : Int) := by omega
   rw [arr_of hargs, arr_of hcs, e64]
   obtain ⟨o, h⟩ := sat_tested h
   refine (world_call hk hfo.inv hF fun B h1 h2 h3 h4 => tstart_ok (by omega) h1 h2 h3 h4).mono ?_
   rintro e w' ⟨rfl, F', h5, h6, h7⟩
   have ht := hr.turn hfo h6 h5 h7
   cases hb : (tstart c kd hh.toNat kk (s.e.th k)).1
   ·rw [hb] at h
    refine ⟨_, _, rfl, h, ?_⟩
    rw [start_no hb, setTh_same] at ht
    exact ht.orc o
   ·rw [hb] at h
    exact ⟨_, _, rfl, h, ht.orc o⟩
  ·exact h.elim
 ·exact h.elim
def extY (c : Cfg) (mb wb nt : Nat) (tb : Nat → Nat) (k : Nat) : Ext (sideY c mb wb nt tb) Tryz.prog := extOf _ [(34, startY c mb wb nt tb k)] (by intro p hp; simp at hp; subst hp; exact startY_ok)
end
end Go.Proofs.YtfinmiakbpmjiaaGreat.Ay
namespace Go.Proofs.YtfinmiakbpmjiaaGreat.Um
open Go Go.RowKit Go.Proofs.YtfinmiakbpmjiaaGreat Go.Proofs.YtfinmiakbpmjiaaGreat.Ay
open Go.Proofs.YtfinmiakbpmjiaaGreat.Ax (pt vi vu)
theorem start_more (c : Cfg) (mb wb nt : Nat) (tb : Nat → Nat) (wd wk k : Nat) (id : Int) (capw : Nat) (kd : Int) (h : Nat) (kk : Int) (e : WE) (preW postW : Array Value) (ei : Int) (eb ne cape : Nat) (arr : Array Value) (hc : all [(decide (id ≥ 0)) = true, (!decide (id < (nt : Int))) = false, (0 : Int) ≤ id, id < (nt : Int), id.toNat * 2 = preW.size, k < nt, (0 : Int) ≤ (h : Int) ∧ (h : Int) < 18446744073709551616, (tstart c kd h kk (e.th k)).1 = true, (0 : Int) ≤ id, id < (nt : Int), id.toNat * 2 + 1 = preW.size + 1, true = true, true = true, true = true, true = true, Nat.beq arr.size (ne * 10) = true, Nat.ble (ne + 1) maxLen = true, Nat.ble ((ne + 1) * 80) 140737488355328 = true]) : RunsY (sideY c mb wb nt tb) 13 #[pt wd, vi id, .agg #[vi kd, vu h, vi kk]] [⟨wd, .vals #[pt mb, .slice (some ⟨wk, 0, none⟩) nt capw, .slice (some ⟨eb, 0, none⟩) ne cape], 77⟩, ⟨wk, .win preW #[pt (tb k), vi ei] postW, 94⟩, ⟨eb, .own arr cape 10, 70⟩] e fun v hp' e' => v = .bool true ∧ (∃ gs : Nat → Nat, hp' = [⟨wd, .vals #[pt mb, .slice (some ⟨wk, 0, none⟩) nt capw, .slice (some ⟨gs 2, 0, none⟩) (ne + 1) (ne + 1 + gs 3)], 77⟩, ⟨wk, .win preW #[pt (tb k), vi (ne : Int)] postW, 94⟩, ⟨gs 2, .own (arr ++ #[vi id, vi kd, vu h, vi kk, vi 0, vu 0, vu 0, vi 0, vi 0, .bool false]) (ne + 1 + gs 3) 10, 70⟩]) ∧ e' = ⟨e.M, e.n, setTh e.th k (tstart c kd h kk (e.th k)).2⟩ :=
 runsY_of (extY c mb wb nt tb k) [17,0,0,4,9,1,3,3,3,3,0,3,3,199,3,12,16,20,0,24,2,28,2,32,2,0,36,2,40,2,199,44,2,48,2,1,0,52,2,3,3,3,57,2,1,60,2,64,199,2,2,12,0,0,4,8,12,0,16,20,24,28,32,0,36,42,199,44,49,1,1,9,1,3,2,6,10,14,16,0,22,26,0,0,0,30,33,37,1,0,4,0,2,42,46,49,0] [0,1,2] (fun _ => _) (fun gs => [⟨wd, .vals #[pt mb, .slice (some ⟨wk, 0, none⟩) nt capw, .slice (some ⟨gs 2, 0, none⟩) (ne + 1) (ne + 1 + gs 3)], 77⟩, ⟨wk, .win preW #[pt (tb k), vi (ne : Int)] postW, 94⟩, ⟨gs 2, .own (arr ++ #[vi id, vi kd, vu h, vi kk, vi 0, vu 0, vu 0, vi 0, vi 0, .bool false]) (ne + 1 + gs 3) 10, 70⟩]) (fun _ => _) (fun _ => _) (fun br gs => by kernel_rfl) (by decide) (fun _ => hc) fun gs => ⟨rfl, ⟨gs, rfl⟩, rfl⟩
theorem start_first (c : Cfg) (mb wb nt : Nat) (tb : Nat → Nat) (wd wk k : Nat) (id : Int) (capw : Nat) (kd : Int) (h : Nat) (kk : Int) (e : WE) (preW postW : Array Value) (ei : Int) (hc : all [(decide (id ≥ 0)) = true, (!decide (id < (nt : Int))) = false, (0 : Int) ≤ id, id < (nt : Int), id.toNat * 2 = preW.size, k < nt, (0 : Int) ≤ (h : Int) ∧ (h : Int) < 18446744073709551616, (tstart c kd h kk (e.th k)).1 = true, (0 : Int) ≤ id, id < (nt : Int), id.toNat * 2 + 1 = preW.size + 1, true = true, true = true, true = true, true = true, true = true, true = true]) : RunsY (sideY c mb wb nt tb) 13 #[pt wd, vi id, .agg #[vi kd, vu h, vi kk]] [⟨wd, .vals #[pt mb, .slice (some ⟨wk, 0, none⟩) nt capw, .slice none 0 0], 77⟩, ⟨wk, .win preW #[pt (tb k), vi ei] postW, 94⟩] e fun v hp' e' => v = .bool true ∧ (∃ gs : Nat → Nat, hp' = [⟨wd, .vals #[pt mb, .slice (some ⟨wk, 0, none⟩) nt capw, .slice (some ⟨gs 2, 0, none⟩) 1 (1 + gs 3)], 77⟩, ⟨wk, .win preW #[pt (tb k), vi 0] postW, 94⟩, ⟨gs 2, .own #[vi id, vi kd, vu h, vi kk, vi 0, vu 0, vu 0, vi 0, vi 0, .bool false] (1 + gs 3) 10, 70⟩]) ∧ e' = ⟨e.M, e.n, setTh e.th k (tstart c kd h kk (e.th k)).2⟩ :=
 runsY_of (extY c mb wb nt tb k) [17,0,0,4,9,1,3,3,3,3,0,3,3,199,3,12,16,20,0,24,2,28,2,32,2,0,36,2,40,2,199,44,2,48,2,1,0,52,2,2,2,2,57,2,1,60,2,64,199,2,2,12,0,0,4,8,12,0,16,20,24,28,32,0,36,42,199,44,49,1,1,9,1,2,2,6,10,14,16,0,22,26,0,0,0,30,33,37,1,0,3,42,46,49,0] [0,1,4] (fun _ => _) (fun gs => [⟨wd, .vals #[pt mb, .slice (some ⟨wk, 0, none⟩) nt capw, .slice (some ⟨gs 2, 0, none⟩) 1 (1 + gs 3)], 77⟩, ⟨wk, .win preW #[pt (tb k), vi 0] postW, 94⟩, ⟨gs 2, .own #[vi id, vi kd, vu h, vi kk, vi 0, vu 0, vu 0, vi 0, vi 0, .bool false] (1 + gs 3) 10, 70⟩]) (fun _ => _) (fun _ => _) (fun br gs => by kernel_rfl) (by decide) (fun _ => hc) fun gs => ⟨rfl, ⟨gs, rfl⟩, rfl⟩
theorem start_not (c : Cfg) (mb wb nt : Nat) (tb : Nat → Nat) (wd wk k : Nat) (id : Int) (capw : Nat) (kd : Int) (h : Nat) (kk : Int) (e : WE) (preW postW : Array Value) (ei : Int) (evv : Value) (hc : all [(decide (id ≥ 0)) = true, (!decide (id < (nt : Int))) = false, (0 : Int) ≤ id, id < (nt : Int), id.toNat * 2 = preW.size, k < nt, (0 : Int) ≤ (h : Int) ∧ (h : Int) < 18446744073709551616, (tstart c kd h kk (e.th k)).1 = false]) : RunsY (sideY c mb wb nt tb) 13 #[pt wd, vi id, .agg #[vi kd, vu h, vi kk]] [⟨wd, .vals #[pt mb, .slice (some ⟨wk, 0, none⟩) nt capw, evv], 77⟩, ⟨wk, .win preW #[pt (tb k), vi ei] postW, 94⟩] e fun v hp' e' => v = .bool false ∧ (∃ gs : Nat → Nat, hp' = [⟨wd, .vals #[pt mb, .slice (some ⟨wk, 0, none⟩) nt capw, evv], 77⟩, ⟨wk, .win preW #[pt (tb k), vi ei] postW, 94⟩]) ∧ e' = e :=
 runsY_of (extY c mb wb nt tb k) [17,0,0,4,9,1,3,3,3,3,0,3,3,199,3,12,16,20,0,24,2,28,2,32,2,0,36,2,40,2,199,44,2,48,2,1,0,52,2,2,2,2,57,2,0,60,2,64,199,2,3] [0,1] (fun _ => _) (fun gs => [⟨wd, .vals #[pt mb, .slice (some ⟨wk, 0, none⟩) nt capw, evv], 77⟩, ⟨wk, .win preW #[pt (tb k), vi ei] postW, 94⟩]) (fun _ => _) (fun _ => _) (fun br gs => by kernel_rfl) (by decide) (fun _ => hc) fun gs => ⟨rfl, ⟨gs, rfl⟩, rfl⟩
theorem start_below (c : Cfg) (mb wb nt : Nat) (tb : Nat → Nat) (wd wk k : Nat) (id : Int) (capw : Nat) (kd : Int) (h : Nat) (kk : Int) (e : WE) (evv : Value) (hc : all [(decide (id ≥ 0)) = false]) : RunsY (sideY c mb wb nt tb) 13 #[pt wd, vi id, .agg #[vi kd, vu h, vi kk]] [⟨wd, .vals #[pt mb, .slice (some ⟨wk, 0, none⟩) nt capw, evv], 77⟩] e fun v hp' e' => v = .bool false ∧ (∃ gs : Nat → Nat, hp' = [⟨wd, .vals #[pt mb, .slice (some ⟨wk, 0, none⟩) nt capw, evv], 77⟩]) ∧ e' = e :=
 runsY_of (extY c mb wb nt tb k) [17,0,0,4,9,0,2,2,2,2,2,2,199,2,12,16,20,3,24,3,28,3,32,3,36,3,40,3,44,3,48,3,52,3,57,3,60,3,64,199,3,3] [0] (fun _ => _) (fun gs => [⟨wd, .vals #[pt mb, .slice (some ⟨wk, 0, none⟩) nt capw, evv], 77⟩]) (fun _ => _) (fun _ => _) (fun br gs => by kernel_rfl) (by decide) (fun _ => hc) fun gs => ⟨rfl, ⟨gs, rfl⟩, rfl⟩
theorem start_above (c : Cfg) (mb wb nt : Nat) (tb : Nat → Nat) (wd wk k : Nat) (id : Int) (capw : Nat) (kd : Int) (h : Nat) (kk : Int) (e : WE) (evv : Value) (hc : all [(decide (id ≥ 0)) = true, (!decide (id < (nt : Int))) = true]) : RunsY (sideY c mb wb nt tb) 13 #[pt wd, vi id, .agg #[vi kd, vu h, vi kk]] [⟨wd, .vals #[pt mb, .slice (some ⟨wk, 0, none⟩) nt capw, evv], 77⟩] e fun v hp' e' => v = .bool false ∧ (∃ gs : Nat → Nat, hp' = [⟨wd, .vals #[pt mb, .slice (some ⟨wk, 0, none⟩) nt capw, evv], 77⟩]) ∧ e' = e :=
 runsY_of (extY c mb wb nt tb k) [17,0,0,4,9,1,3,3,3,3,0,3,3,199,3,12,16,20,1,24,3,28,3,32,3,36,3,40,3,44,3,48,3,52,3,57,3,60,3,64,199,3,3] [0] (fun _ => _) (fun gs => [⟨wd, .vals #[pt mb, .slice (some ⟨wk, 0, none⟩) nt capw, evv], 77⟩]) (fun _ => _) (fun _ => _) (fun br gs => by kernel_rfl) (by decide) (fun _ => hc) fun gs => ⟨rfl, ⟨gs, rfl⟩, rfl⟩
end Go.Proofs.YtfinmiakbpmjiaaGreat.Um
namespace Go.Proofs.YtfinmiakbpmjiaaGreat.Um
open Go Go.RowKit Go.Proofs.YtfinmiakbpmjiaaGreat
open Go.Proofs.YtfinmiakbpmjiaaGreat.Ax (pt vi vu)
theorem y_of_x {b : Nat} {a : Array Value} {t : TypeId} {w : World} : (⟨b, .vals a, t⟩ : Ay.Blk).holds w ↔ (⟨b, .vals a, t⟩ : Ax.Blk).holds w := by
 constructor
 ·intro h
  obtain ⟨rest, h1, h2⟩ := Ay.holds_cells h (by intro es c e; cases e)
  exact ⟨rest, h1, trivial⟩
 ·rintro ⟨rest, h1, h2⟩
  exact ⟨_, h1, .inl ⟨rest, rfl, trivial⟩⟩
theorem y_of_win {b : Nat} {p a q : Array Value} {t : TypeId} {w : World} : (⟨b, .win p a q, t⟩ : Ay.Blk).holds w ↔ (⟨b, .win p a q, t⟩ : Ax.Blk).holds w := by
 constructor
 ·intro h
  obtain ⟨rest, h1, h2⟩ := Ay.holds_cells h (by intro es c e; cases e)
  exact ⟨rest, h1, h2⟩
 ·rintro ⟨rest, h1, h2⟩
  exact ⟨_, h1, .inl ⟨rest, rfl, h2⟩⟩
def wstartZ (c : Cfg) (s : Wd) (id kd : Int) (h : Nat) (k : Int) : Bool × Wd := if 0 ≤ id ∧ id < c.T then wstart c s id.toNat kd h k else (false, s)
section
variable {c : Cfg} {wd mb wb wk capw : Nat} {tb : Nat → Nat} {wl wl' : List (Nat × Nat)} {evv evv' : Value} {F0 F : List Nat} {s s' : Wd} {w w' : World}
theorem WAt.relY (h : WAt c wd mb wb wk capw tb wl evv F0 s w F) {hp : List Ay.Blk} (hn : (hp.map (·.b)).Nodup) (hh : ∀ x ∈ hp, x.holds w) (hb : ∀ x ∈ hp, x.b ∉ F0) : Ay.Rel0 (Ay.sideY c mb wb c.T.toNat tb) (hp.map (·.b) ++ F0) w ⟨hp, ⟨s.M, s.n, s.th⟩, []⟩ w :=
 ⟨⟨hn, hh⟩, ⟨F0, h.wi, hb, fun b hb' => ⟨h.lt b hb', .inl (List.mem_append_right _ hb')⟩⟩, .of (Below.refl _ _), fun x hx => .inl (List.mem_append_left _ (List.mem_map.2 ⟨x, hx, rfl⟩)), by simp, by simp⟩
theorem WAt.backY (h : WAt c wd mb wb wk capw tb wl evv F0 s w F) {hp hp0 : List Ay.Blk} {e : WE} (hr : Ay.Rel0 (Ay.sideY c mb wb c.T.toNat tb) (hp0.map (·.b) ++ F0) w ⟨hp, e, []⟩ w') (hin : ∀ b ∈ hp0.map (·.b), b ∈ F) (hns : ∀ b ∈ hp0.map (·.b), evv.ownBlock = some b ∨ b ∈ hp.map (·.b)) (h1 : e = ⟨s'.M, s'.n, s'.th⟩)
  (hbox : (Ax.Blk.mk wd (.vals #[pt mb, .slice (some ⟨wk, 0, none⟩) c.T.toNat capw, evv']) 77).holds w') (hwk : ∃ sp : Array Value, w'.heap[wk]? = some (.cells ((wl'.flatMap wkC).toArray ++ sp) 94 (0, 0))) (hlen : wl'.length = c.T.toNat) (hat : ∀ j, j < c.T.toNat → wl'[j]? = some (tb j, s'.at_ j)) (hev : w'.ownsRow 0 70 10 evv' s'.evs.length (evArr s'.evs))
  (hg : evv' = evv ∧ (∀ g, evv.ownBlock = some g → g ∉ hp0.map (·.b)) ∨ ∃ g, evv'.ownBlock = some g ∧ g ∈ hp.map (·.b) ∧ g ≠ wd ∧ g ≠ wk) :
  ∃ F', WorldAt c wd s' w' F' ∧ Only F w w' ∧ ∀ b ∈ F', b ∈ F ∨ w.heap.size ≤ b := by
 subst h1
 obtain ⟨F1, hf⟩ := hr.side
 obtain ⟨m1, m2, m3, m4⟩ := h.mem
 have hnames : ∀ b, b ∈ hp.map (·.b) → b ∉ F1 := by
  intro b hb
  obtain ⟨x, hx, rfl⟩ := List.mem_map.1 hb
  exact hf.apart x hx
 have hev0 : ∀ g, evv.ownBlock = some g → g ∈ F ∧ g ≠ wd ∧ g ≠ wk := fun g hg' => ⟨m3 g hg', (h.far.2.2.2 g hg').1, (h.far.2.2.2 g hg').2.1⟩
 have hF1 : ∀ b ∈ F1, b ∈ F0 ∨ w.heap.size ≤ b ∨ evv.ownBlock = some b := by
  intro b hb
  rcases (hf.foot b hb).2 with h3 | h3
  ·rcases List.mem_append.1 h3 with h4 | h4
   ·rcases hns b h4 with h5 | h5
    ·exact .inr (.inr h5)
    ·exact (hnames b h5 hb).elim
   ·exact .inl h4
  ·exact .inr (.inl h3)
 have hnot : ∀ b, b ∈ F → b ∉ F0 → evv.ownBlock ≠ some b → b ∉ F1 := by
  intro b hb hb0 hne hb1
  have := h.all_lt b hb
  rcases hF1 b hb1 with h3 | h3 | h3
  ·exact hb0 h3
  ·omega
  ·exact hne h3
 have hwdn : evv.ownBlock ≠ some wd := fun e => (hev0 _ e).2.1 rfl
 have hwkn : evv.ownBlock ≠ some wk := fun e => (hev0 _ e).2.2 rfl
 have hF : ∀ b ∈ F1, b ∈ F ∨ w.heap.size ≤ b := by
  intro b hb
  rcases hF1 b hb with h3 | h3 | h3
  ·exact .inl (m4 b h3)
  ·exact .inr h3
  ·exact .inl (m3 b h3)
 have hgev : ∀ g, evv'.ownBlock = some g → (g ≠ wd ∧ g ≠ wk ∧ g ∉ F1) ∧ (g ∈ F ∨ w.heap.size ≤ g) := by
  intro g hg'
  rcases hg with ⟨rfl, hg2⟩ | ⟨g2, e2, h2, h3, h4⟩
  ·obtain ⟨k1, k2, k3⟩ := h.far.2.2.2 g hg'
   refine ⟨⟨k1, k2, fun hb1 => ?_⟩, .inl (m3 g hg')⟩
   have := h.all_lt g (m3 g hg')
   rcases (hf.foot g hb1).2 with h3 | h3
   ·rcases List.mem_append.1 h3 with h4 | h4
    ·exact hg2 g hg' h4
    ·exact k3 h4
   ·omega
  ·rw [e2] at hg'
   cases hg'
   refine ⟨⟨h3, h4, hnames _ h2⟩, ?_⟩
   obtain ⟨x, hx, rfl⟩ := List.mem_map.1 h2
   rcases hr.own x hx with h5 | h5
   ·rcases List.mem_append.1 h5 with h6 | h6
    ·exact .inl (hin _ h6)
    ·exact .inl (m4 _ h6)
   ·exact .inr h5
 refine ⟨_, ⟨mb, wb, wk, capw, tb, wl', evv', F1, hf.inv, hbox, hwk, hlen, hat, hev, ⟨h.far.1, hnot _ m1 h.far.2.1 hwdn, hnot _ m2 h.far.2.2.1 hwkn, fun g hg' => (hgev g hg').1⟩, rfl, fun b hb => (hf.foot b hb).1⟩, hr.only.wide fun b hb => ?_, fun b hb => ?_⟩
 ·rcases List.mem_append.1 hb with h3 | h3
  ·exact hin b h3
  ·exact m4 b h3
 ·simp only [List.mem_cons, List.mem_append, Option.mem_toList] at hb
  rcases hb with rfl | rfl | hb | hb
  ·exact .inl m1
  ·exact .inl m2
  ·exact (hgev b hb).2
  ·exact hF b hb
def newEv (id : Nat) (kd : Int) (h : Nat) (k : Int) : Ev := ⟨id, kd, h, k, ⟨0, 0, 0⟩, 0, 0, false⟩
theorem evArr_new (l : List Ev) (id : Nat) (kd : Int) (h : Nat) (k : Int) : evArr (l ++ [newEv id kd h k]) = evArr l ++ [vi (id : Int), vi kd, vu h, vi k, vi 0, vu 0, vu 0, vi 0, vi 0, .bool false] := by
 unfold evArr
 rw [List.flatMap_append]
 simp [Ev.cs, newEv]
theorem start_any (h : WorldAt c wd s w F) (id kd : Int) (hh : Nat) (kk : Int) (h64 : hh < 18446744073709551616) (hlen : s.evs.length < 1000000) : WCall c wd 13 #[pt wd, vi id, .agg #[vi kd, vu hh, vi kk]] w F (.bool (wstartZ c s id kd hh kk).1) (wstartZ c s id kd hh kk).2 := by
 obtain ⟨mb, wb, wk, capw, tb, wl, evv, F0, h⟩ := h
 obtain ⟨m1, m2, m3, m4⟩ := h.mem
 have hright : c.right := h.wi.1.right
 have hT : ((c.T.toNat : Nat) : Int) = c.T := by
  obtain ⟨a1, a2, _⟩ := hright
  omega
 obtain ⟨sp, hwk⟩ := h.wks
 have hbox := y_of_x.2 h.box
 have nowhere : (wstartZ c s id kd hh kk) = (false, s) → Ay.RunsY (Ay.sideY c mb wb c.T.toNat tb) 13 #[pt wd, vi id, .agg #[vi kd, vu hh, vi kk]] [⟨wd, .vals #[pt mb, .slice (some ⟨wk, 0, none⟩) c.T.toNat capw, evv], 77⟩] ⟨s.M, s.n, s.th⟩ (fun v hp' e' => v = .bool false ∧ (∃ gs : Nat → Nat, hp' = [⟨wd, .vals #[pt mb, .slice (some ⟨wk, 0, none⟩) c.T.toNat capw, evv], 77⟩]) ∧ e' = ⟨s.M, s.n, s.th⟩) → WCall c wd 13 #[pt wd, vi id, .agg #[vi kd, vu hh, vi kk]] w F (.bool (wstartZ c s id kd hh kk).1) (wstartZ c s id kd hh kk).2 := by
  intro hz hrun
  rw [hz]
  refine (hrun _ _ _ (h.relY (by simp) (by simpa using hbox) (by intro x hx; simp at hx; subst hx; exact h.far.2.1))).mono ?_
  rintro en w' ⟨v, hp', e', rfl, ⟨rfl, ⟨gs, rfl⟩, rfl⟩, hr⟩
  have hne : ∀ b, b ∈ F → b ≠ wd → b ∉ F0 → b ∉ ([(⟨wd, .vals #[pt mb, .slice (some ⟨wk, 0, none⟩) c.T.toNat capw, evv], 77⟩ : Ay.Blk)].map (·.b)) ++ F0 := by
   intro b _ h1 h2
   simp [h1, h2]
  exact ⟨rfl, h.backY hr (by simpa using m1) (fun b hb => .inr hb) rfl (y_of_x.1 (hr.has.each _ (by simp))) ⟨sp, hr.only.blk (hne wk m2 (Ne.symm h.far.1) h.far.2.2.1) hwk⟩ h.wlen h.wat (row_keep h.evs fun g hg => hr.only.block g (row_lt h.evs hg) (hne g (m3 g hg) (h.far.2.2.2 g hg).1 (h.far.2.2.2 g hg).2.2)) (.inl ⟨rfl, fun g hg => by simpa using (h.far.2.2.2 g hg).1⟩)⟩
 by_cases h0 : ¬ 0 ≤ id
 ·exact nowhere (by unfold wstartZ; rw [if_neg (by omega)]) (start_below _ _ _ _ _ _ _ 0 _ _ _ _ _ _ _ ⟨by simp; omega, trivial⟩)
 have h0 := Decidable.not_not.1 h0
 by_cases h1 : ¬ id < c.T
 ·exact nowhere (by unfold wstartZ; rw [if_neg (by omega)]) (start_above _ _ _ _ _ _ _ 0 _ _ _ _ _ _ _ ⟨by simp; omega, by simp; omega, trivial⟩)
 have h1 := Decidable.not_not.1 h1
 obtain ⟨k, rfl⟩ : ∃ k : Nat, id = (k : Int) := ⟨id.toNat, by omega⟩
 have hk : k < c.T.toNat := by omega
 have hwl := h.wat k hk
 have hz : wstartZ c s (k : Int) kd hh kk = wstart c s k kd hh kk := by unfold wstartZ; rw [if_pos ⟨h0, h1⟩]; rfl
 rw [hz]
 have hpre : (((wl.take k).flatMap wkC).toArray).size = k * 2 := by
  have := wk_len (wl.take k)
  have hl := h.wlen
  simp only [List.size_toArray, this, List.length_take]
  omega
 have hwkY : (⟨wk, .win ((wl.take k).flatMap wkC).toArray #[pt (tb k), vi (s.at_ k : Int)] (((wl.drop (k + 1)).flatMap wkC).toArray ++ sp), 94⟩ : Ay.Blk).holds w := y_of_win.2 ((wk_holds hwl).2 hwk)
 have a0 : (0 : Int) ≤ (k : Int) := by omega
 have a1 : (k : Int) < ((c.T.toNat : Nat) : Int) := by omega
 have ask1 : (decide ((k : Int) ≥ 0)) = true := by simp
 have ask2 : (!decide ((k : Int) < ((c.T.toNat : Nat) : Int))) = false := by simp; omega
 have a5 : (k : Int).toNat * 2 = ((wl.take k).flatMap wkC).toArray.size := by rw [hpre]; simp
 have a7 : (0 : Int) ≤ (hh : Int) ∧ (hh : Int) < 18446744073709551616 := by omega
 cases hts : (tstart c kd hh kk (s.th k)).1 with
 | false =>
  have hw : wstart c s k kd hh kk = (false, s) := by
   unfold wstart
   have := Ay.start_no hts
   rw [show tstart c kd hh kk (s.th k) = (false, s.th k) from Prod.ext hts this]
  rw [hw]
  refine (start_not c mb wb c.T.toNat tb wd wk k (k : Int) capw kd hh kk ⟨s.M, s.n, s.th⟩ _ _ (s.at_ k : Int) evv ⟨ask1, ask2, a0, a1, a5, hk, a7, hts, trivial⟩ _ _ _ (h.relY (by simpa using h.far.1) (by intro x hx; simp at hx; rcases hx with rfl | rfl; exact hbox; exact hwkY) (by intro x hx; simp at hx; rcases hx with rfl | rfl; exact h.far.2.1; exact h.far.2.2.1))).mono ?_
  rintro en w' ⟨v, hp', e', rfl, ⟨rfl, ⟨gs, rfl⟩, rfl⟩, hr⟩
  have hne : ∀ g, evv.ownBlock = some g → g ∉ ([(⟨wd, .vals #[pt mb, .slice (some ⟨wk, 0, none⟩) c.T.toNat capw, evv], 77⟩ : Ay.Blk), ⟨wk, .win ((wl.take k).flatMap wkC).toArray #[pt (tb k), vi (s.at_ k : Int)] (((wl.drop (k + 1)).flatMap wkC).toArray ++ sp), 94⟩].map (·.b)) ++ F0 := by
   intro g hg
   obtain ⟨k1, k2, k3⟩ := h.far.2.2.2 g hg
   simp [k1, k2, k3]
  refine ⟨rfl, h.backY hr (by intro b hb; simp at hb; rcases hb with rfl | rfl; exact m1; exact m2) (fun b hb => .inr hb) rfl (y_of_x.1 (hr.has.each _ (by simp))) ⟨sp, (wk_holds hwl).1 (y_of_win.1 (hr.has.each _ (by simp)))⟩ h.wlen h.wat (row_keep h.evs fun g hg => hr.only.block g (row_lt h.evs hg) (hne g hg)) (.inl ⟨rfl, fun g hg => ?_⟩)⟩
  obtain ⟨k1, k2, k3⟩ := h.far.2.2.2 g hg
  simp [k1, k2]
 | true =>
  have hw : wstart c s k kd hh kk = (true, { s with th := setF s.th k (tstart c kd hh kk (s.th k)).2, at_ := setF s.at_ k s.evs.length, evs := s.evs ++ [newEv k kd hh kk] }) := by
   unfold wstart
   rw [show tstart c kd hh kk (s.th k) = (true, (tstart c kd hh kk (s.th k)).2) from Prod.ext hts rfl]
   rfl
  rw [hw]
  have hwl2 : ∀ j, j < c.T.toNat → (wl.set k (tb k, s.evs.length))[j]? = some (tb j, setF s.at_ k s.evs.length j) := by
   intro j hj
   by_cases e : k = j
   ·subst e
    rw [List.getElem?_set_self (by rw [h.wlen]; exact hk), setF_same]
   ·rw [List.getElem?_set_ne e, setF_other _ _ (Ne.symm e)]
    exact h.wat j hj
  have hwk2 : (wl.set k (tb k, s.evs.length))[k]? = some (tb k, s.evs.length) := List.getElem?_set_self (by rw [h.wlen]; exact hk)
  have hpost : ∀ {w' : World}, (⟨wk, .win ((wl.take k).flatMap wkC).toArray #[pt (tb k), vi (s.evs.length : Int)] (((wl.drop (k + 1)).flatMap wkC).toArray ++ sp), 94⟩ : Ay.Blk).holds w' → w'.heap[wk]? = some (.cells (((wl.set k (tb k, s.evs.length)).flatMap wkC).toArray ++ sp) 94 (0, 0)) := by
   intro w' hh'
   refine (wk_holds (tb := tb) (ev := s.evs.length) hwk2).1 ?_
   unfold wkBk wkB
   rw [List.take_set_of_le (Nat.le_refl _), List.drop_set_of_lt (by omega)]
   exact y_of_win.1 hh'
  have fin : ∀ {w' : World} {hp : List Ay.Blk} {g cap : Nat} {arr : Array Value}, (⟨g, .own arr cap 10, 70⟩ : Ay.Blk) ∈ hp → (∀ x ∈ hp, x.holds w') → arr = (evArr (s.evs ++ [newEv k kd hh kk])).toArray → s.evs.length + 1 ≤ cap → w'.ownsRow 0 70 10 (.slice (some ⟨g, 0, none⟩) (s.evs.length + 1) cap) (s.evs ++ [newEv k kd hh kk]).length (evArr (s.evs ++ [newEv k kd hh kk])) := by
   intro w' hp g cap arr hin hall ha hcap
   obtain ⟨rest, k1, k2, k3⟩ := Ay.holds_cells (hall _ hin) (by intro es c e; cases e)
   have hl2 := evArr_len (s.evs ++ [newEv k kd hh kk])
   rw [List.length_append, List.length_singleton] at hl2 ⊢
   simp only [Ay.Cells.arr] at k1
   rw [ha] at k1 k2
   exact row_shut k1 hcap k3 (by simpa using k2) hl2
  have hnd : ∀ {b : Nat}, wd ≠ wk ∧ b ≠ wd ∧ b ≠ wk → [wd, wk, b].Nodup := by
   rintro b ⟨e1, e2, e3⟩
   simp [e1, Ne.symm e2, Ne.symm e3]
  rcases h.evs.2 with ⟨rfl, hnil⟩ | ⟨eb, cape, cur, rfl, _, hg1, hg2, hg3, hg4, hg5⟩
  ·have he0 : s.evs = [] := List.eq_nil_of_length_eq_zero hnil
   refine (start_first c mb wb c.T.toNat tb wd wk k (k : Int) capw kd hh kk ⟨s.M, s.n, s.th⟩ _ _ (s.at_ k : Int) ⟨ask1, ask2, a0, a1, a5, hk, a7, hts, a0, a1, by omega, rfl, rfl, rfl, rfl, rfl, rfl, trivial⟩ _ _ _ (h.relY (by simpa using h.far.1) (by intro x hx; simp at hx; rcases hx with rfl | rfl; exact hbox; exact hwkY) (by intro x hx; simp at hx; rcases hx with rfl | rfl; exact h.far.2.1; exact h.far.2.2.1))).mono ?_
   rintro en w' ⟨v, hp', e', rfl, ⟨rfl, ⟨gs, rfl⟩, rfl⟩, hr⟩
   have hnd' := hr.has.nd
   simp at hnd'
   refine ⟨rfl, h.backY (evv' := .slice (some ⟨gs 2, 0, none⟩) 1 (1 + gs 3)) (wl' := wl.set k (tb k, s.evs.length)) hr (by intro b hb; simp at hb; rcases hb with rfl | rfl; exact m1; exact m2) (fun b hb => .inr (by simp at hb ⊢; omega)) rfl (y_of_x.1 (hr.has.each _ (by simp))) ⟨sp, hpost (by rw [hnil]; exact hr.has.each _ (by simp))⟩ (by rw [List.length_set]; exact h.wlen) hwl2 ?_ (.inr ⟨gs 2, by simp [Value.ownBlock], by simp, fun e => hnd'.1.2 e.symm, fun e => hnd'.2 e.symm⟩)⟩
   have := fin (w' := w') (g := gs 2) (cap := 1 + gs 3) (List.mem_cons_of_mem _ (List.mem_cons_of_mem _ List.mem_cons_self)) hr.has.each (by rw [evArr_new, he0]; rfl) (by omega)
   rw [hnil] at this
   exact this
  ·obtain ⟨k1, k2, k3⟩ := h.far.2.2.2 eb (by simp [Value.ownBlock])
   have hl3 := evArr_len s.evs
   have hevY : (⟨eb, .own (evArr s.evs).toArray cape 10, 70⟩ : Ay.Blk).holds w := by
    refine ⟨_, hg1, .inl ⟨(cur.toList.drop (s.evs.length * 10)).toArray, ?_, ?_, hg3⟩⟩
    ·congr 1
     apply Array.ext'
     rw [← hg5]
     simp [Ay.Cells.arr]
    ·have : s.evs.length * 10 ≤ cape * 10 := Nat.mul_le_mul_right _ hg2
     simp only [List.size_toArray, hl3, List.length_drop, Array.length_toList, hg4]
     omega
   refine (start_more c mb wb c.T.toNat tb wd wk k (k : Int) capw kd hh kk ⟨s.M, s.n, s.th⟩ _ _ (s.at_ k : Int) eb s.evs.length cape (evArr s.evs).toArray ⟨ask1, ask2, a0, a1, a5, hk, a7, hts, a0, a1, by omega, rfl, rfl, rfl, rfl, by simp [hl3], by simp [maxLen]; omega, by simp; omega, trivial⟩ _ _ _ (h.relY (hnd ⟨h.far.1, k1, k2⟩) (by intro x hx; simp at hx; rcases hx with rfl | rfl | rfl; exact hbox; exact hwkY; exact hevY) (by intro x hx; simp at hx; rcases hx with rfl | rfl | rfl; exact h.far.2.1; exact h.far.2.2.1; exact k3))).mono ?_
   rintro en w' ⟨v, hp', e', rfl, ⟨rfl, ⟨gs, rfl⟩, rfl⟩, hr⟩
   have hnd' := hr.has.nd
   simp at hnd'
   exact ⟨rfl, h.backY (evv' := .slice (some ⟨gs 2, 0, none⟩) (s.evs.length + 1) (s.evs.length + 1 + gs 3)) (wl' := wl.set k (tb k, s.evs.length)) hr (by intro b hb; simp at hb; rcases hb with rfl | rfl | rfl; exact m1; exact m2; exact m3 _ (by simp [Value.ownBlock])) (fun b hb => by
    simp at hb
    rcases hb with rfl | rfl | rfl
    ·exact .inr (by simp)
    ·exact .inr (by simp)
    ·exact .inl (by simp [Value.ownBlock])) rfl (y_of_x.1 (hr.has.each _ (by simp))) ⟨sp, hpost (hr.has.each _ (by simp))⟩ (by rw [List.length_set]; exact h.wlen) hwl2 (by
     have := fin (w' := w') (g := gs 2) (cap := s.evs.length + 1 + gs 3) (List.mem_cons_of_mem _ (List.mem_cons_of_mem _ List.mem_cons_self)) hr.has.each (by rw [evArr_new]; apply Array.ext'; simp) (by omega)
     simpa using this) (.inr ⟨gs 2, by simp [Value.ownBlock], by simp, fun e => hnd'.1.2 e.symm, fun e => hnd'.2 e.symm⟩)⟩
end
end Go.Proofs.YtfinmiakbpmjiaaGreat.Um
namespace Go.Proofs.YtfinmiakbpmjiaaGreat.Um
open Go Go.RowKit Go.Proofs.YtfinmiakbpmjiaaGreat Go.Proofs.YtfinmiakbpmjiaaGreat.Ay
open Go.Proofs.YtfinmiakbpmjiaaGreat.Ax (pt vi vu)
theorem WCall.mono {c : Cfg} {wd : Nat} {f : FuncId} {args : Array Value} {w : World} {F : List Nat} {v : Value} {s' : Wd} (h : WCall c wd f args w F v s') {R : Ending → World → Prop} (hR : ∀ w' F', WorldAt c wd s' w' F' → Only F w w' → (∀ b ∈ F', b ∈ F ∨ w.heap.size ≤ b) → R (.returned v) w') : Calls Tryz.prog f args w R :=
 Calls.mono h (by rintro e w' ⟨rfl, F', h1, h2, h3⟩; exact hR w' F' h1 h2 h3)
def sideD (c : Cfg) (wd : Nat) : Side := { E := Wd, I := fun s w F => WorldAt c wd s w F ∧ Reach c s ∧ c.right, stable := fun s w w' L F h k hF => ⟨h.1.keep k hF, h.2⟩ }
def stepD (c : Cfg) (wd : Nat) : Array Value → St (sideD c wd).E → Tree (Value × St (sideD c wd).E) := fun args s => match args.toList with
 | [.pointer (some ⟨b, 0, none⟩), .int .i64 id] => .same b wd (.ask (s.e.n < 1000000000) (tested (wstepZ c s.e id).1 s fun b t => .done (.bool b, { t with e := (wstepZ c s.e id).2 })))
 | _ => .fail
theorem reach_stepZ {c : Cfg} {s : Wd} (h : Reach c s) (id : Int) : Reach c (wstepZ c s id).2 := by
 unfold wstepZ
 split
 ·rename_i h1
  exact .step _ (by omega) h
 ·exact h
theorem reach_startZ {c : Cfg} {s : Wd} (hr : Reach c s) (id kd : Int) (h : Nat) (k : Int) (hh : h < 18446744073709551616) : Reach c (wstartZ c s id kd h k).2 := by
 unfold wstartZ
 split
 ·rename_i h1
  exact .start _ _ _ _ (by omega) hh hr
 ·exact hr
theorem turnD {S : Side} {L : List Nat} {w0 w w' : World} {pr : Prot} {PN : List (Nat × Blk)} {s : St S.E} {F : List Nat} {e : S.E} (hr : Rel S L w0 pr PN s w) (hf : Foot S L w0 s w F) {F' : List Nat} (h1 : S.I e w' F') (h2 : Only F w w') (h3 : ∀ b ∈ F', b ∈ F ∨ w.heap.size ≤ b) (h4 : ∀ b ∈ F', b < w'.heap.size) (o : List Nat) : Rel S L w0 pr PN { s with e := e, orc := o } w' :=
 (hr.turn hf h2 h1 fun b hb => ⟨h4 b hb, h3 b hb⟩).orc o
theorem stepD_ok {c : Cfg} {wd : Nat} : ExtOK (sideD c wd) 35 (stepD c wd) := by
 intro L w0 pr PN args s w Q h hr
 unfold stepD at h
 split at h
 ·rename_i b id hargs
  obtain ⟨rfl, hn, h⟩ := h
  obtain ⟨F, hfo⟩ := hr.side
  obtain ⟨h1, h2, h3⟩ := hfo.inv
  obtain ⟨o, h⟩ := sat_tested h
  rw [arr_of hargs]
  refine (step_any h1 (reach_str h3 h2) hn id).mono ?_
  intro w' F' k1 k2 k3
  exact ⟨_, _, rfl, h, turnD hr hfo ⟨k1, reach_stepZ h2 id, h3⟩ k2 k3 k1.all_lt o⟩
 ·exact h.elim
def extD (c : Cfg) (wd : Nat) : Ext (sideD c wd) Tryz.prog := extOf _ [(35, stepD c wd)] (by intro p hp; simp at hp; subst hp; exact stepD_ok)
theorem pick_yes (c : Cfg) (wd b : Nat) (id : Int) (cap : Nat) (e : Wd) (hc : all [(0 : Int) ≤ 0, (0 : Int) < 1, e.n < 1000000000, (wstepZ c e id).1 = true]) : RunsY (sideD c wd) 20 #[pt wd, .slice (some ⟨b, 0, none⟩) 1 cap] [⟨b, .vals #[vi id], 3⟩] e fun v hp' e' => v = vi 1 ∧ hp' = [⟨b, .vals #[vi id], 3⟩] ∧ e' = (wstepZ c e id).2 :=
 runsY_of (extD c wd) [3,199,0,1,3,2] [0] (fun _ => _) (fun gs => [⟨b, .vals #[vi id], 3⟩]) (fun _ => _) (fun _ => _) (fun br gs => by kernel_rfl) (by decide) (fun _ => hc) fun gs => ⟨rfl, rfl, rfl⟩
theorem pick_not (c : Cfg) (wd b : Nat) (id : Int) (cap : Nat) (e : Wd) (hc : all [(0 : Int) ≤ 0, (0 : Int) < 1, e.n < 1000000000, (wstepZ c e id).1 = false]) : RunsY (sideD c wd) 20 #[pt wd, .slice (some ⟨b, 0, none⟩) 1 cap] [⟨b, .vals #[vi id], 3⟩] e fun v hp' e' => v = vi 0 ∧ hp' = [⟨b, .vals #[vi id], 3⟩] ∧ e' = (wstepZ c e id).2 :=
 runsY_of (extD c wd) [3,199,0,0,2,2] [0] (fun _ => _) (fun gs => [⟨b, .vals #[vi id], 3⟩]) (fun _ => _) (fun _ => _) (fun br gs => by kernel_rfl) (by decide) (fun _ => hc) fun gs => ⟨rfl, rfl, rfl⟩
theorem Pick_any {c : Cfg} {wd : Nat} {s : Wd} {w : World} {F : List Nat} (h : WorldAt c wd s w F) (hr : Reach c s) (hc : c.right) (hn : s.n < 1000000000) {b cap : Nat} {id : Int} (hb : w.heap[b]? = some (.cells #[vi id] 3 (0, 0))) (hF : b ∉ F) :
  Calls Tryz.prog 20 #[pt wd, .slice (some ⟨b, 0, none⟩) 1 cap] w fun e w' => e = .returned (vi ((wstepZ c s id).1.toNat : Int)) ∧ ∃ F', WorldAt c wd (wstepZ c s id).2 w' F' ∧ Only (b :: F) w w' ∧ ∀ x ∈ F', x ∈ F ∨ w.heap.size ≤ x := by
 have hrel : Rel0 (sideD c wd) (b :: F) w ⟨[⟨b, .vals #[vi id], 3⟩], s, []⟩ w :=
  ⟨⟨by simp, by intro x hx; simp at hx; subst hx; exact ⟨_, hb, .inl ⟨#[], by simp [Cells.arr], trivial⟩⟩⟩, ⟨F, ⟨h, hr, hc⟩, by intro x hx; simp at hx; subst hx; exact hF, fun x hx => ⟨h.all_lt x hx, .inl (List.mem_cons_of_mem _ hx)⟩⟩, .of (Below.refl _ _), by intro x hx; simp at hx; subst hx; exact .inl List.mem_cons_self, by simp, by simp⟩
 have fin : ∀ {w' : World}, Rel0 (sideD c wd) (b :: F) w ⟨[⟨b, .vals #[vi id], 3⟩], (wstepZ c s id).2, []⟩ w' → ∃ F', WorldAt c wd (wstepZ c s id).2 w' F' ∧ Only (b :: F) w w' ∧ ∀ x ∈ F', x ∈ F ∨ w.heap.size ≤ x := by
  intro w' hr'
  obtain ⟨F', hf⟩ := hr'.side
  refine ⟨F', hf.inv.1, hr'.only, fun x hx => ?_⟩
  rcases (hf.foot x hx).2 with h1 | h1
  ·rcases List.mem_cons.1 h1 with rfl | h1
   ·exact (hf.apart _ List.mem_cons_self hx).elim
   ·exact .inl h1
  ·exact .inr h1
 cases hs : (wstepZ c s id).1 with
 | true =>
  refine (pick_yes c wd b id cap s ⟨by decide, by decide, hn, hs, trivial⟩ _ _ _ hrel).mono ?_
  rintro e w' ⟨v, hp', e', rfl, ⟨rfl, rfl, rfl⟩, hr'⟩
  exact ⟨rfl, fin hr'⟩
 | false =>
  refine (pick_not c wd b id cap s ⟨by decide, by decide, hn, hs, trivial⟩ _ _ _ hrel).mono ?_
  rintro e w' ⟨v, hp', e', rfl, ⟨rfl, rfl, rfl⟩, hr'⟩
  exact ⟨rfl, fin hr'⟩
def picks (c : Cfg) (s : Wd) (id : Int) : Nat → Wd
 | 0 => s
 | n + 1 => if (wstepZ c s id).1 = true then picks c (wstepZ c s id).2 id n else s
def doW (c : Cfg) (s : Wd) (t kd : Int) (h : Nat) (k : Int) : Wd := if kd ≠ 0 then (wstartZ c s t kd h k).2 else picks c s t (h % 64)
theorem picks_go {c : Cfg} {s : Wd} {id : Int} {n : Nat} (h : (wstepZ c s id).1 = true) : picks c s id (n + 1) = picks c (wstepZ c s id).2 id n := if_pos h
theorem picks_no {c : Cfg} {s : Wd} {id : Int} {n : Nat} (h : (wstepZ c s id).1 = false) : picks c s id n = s := by
 cases n with
 | zero => rfl
 | succ n => exact if_neg (by rw [h]; simp)
theorem stepZ_no {c : Cfg} {s : Wd} {id : Int} (h : (wstepZ c s id).1 = false) : (wstepZ c s id).2 = s := by
 unfold wstepZ at h ⊢
 split
 ·rename_i h1
  rw [if_pos h1] at h
  unfold wstep at h ⊢
  split
  ·rfl
  ·rename_i h2; rw [if_neg h2] at h; cases h
 ·rfl
theorem stepZ_n {c : Cfg} {s : Wd} {id : Int} : (wstepZ c s id).2.n ≤ s.n + 1 ∧ (wstepZ c s id).2.evs.length = s.evs.length := by
 unfold wstepZ
 split
 ·unfold wstep
  split
  ·exact ⟨Nat.le_succ _, rfl⟩
  ·exact ⟨Nat.le_refl _, by simp⟩
 ·exact ⟨Nat.le_succ _, rfl⟩
theorem only_then {F F' : List Nat} {w w1 w2 : World} (h1 : Only F w w1) (h2 : Only F' w1 w2) (hf : ∀ x ∈ F', x ∈ F ∨ w.heap.size ≤ x) : Only F w w2 :=
 ⟨h2.os.trans h1.os, h2.tape.trans h1.tape, h2.output.trans h1.output, Nat.le_trans h1.size h2.size, fun k hk hn => (h2.block k (Nat.lt_of_lt_of_le hk h1.size) (fun hm => (hf k hm).elim hn (by omega))).trans (h1.block k hk hn)⟩
set_option maxHeartbeats 2000000 in
theorem Do_any {c : Cfg} {wd : Nat} {s : Wd} {w : World} {F : List Nat} (h : WorldAt c wd s w F) (hr : Reach c s) (hc : c.right) (hn : s.n < 900000000) (hl : s.evs.length < 1000000) (t kd : Int) (hh : Nat) (k : Int) (h64 : hh < 18446744073709551616) :
  Calls Tryz.prog 6 #[.pointer (some ⟨wd, 0, none⟩), .agg #[.int .i64 t, .int .i64 kd, .int .u64 (hh : Int), .int .i64 k]] w fun e w' => e = .returned (.tuple #[]) ∧ ∃ F', WorldAt c wd (doW c s t kd hh k) w' F' ∧ Only F w w' ∧ ∀ x ∈ F', x ∈ F ∨ w.heap.size ≤ x := by
 have hlt := h.all_lt
 have HLt := Lib.hid hlt
 have h1 := h.keep (L := []) (w' := w.alloc (.cells #[.int .i64 t, .int .i64 kd, .int .u64 (hh : Int), .int .i64 k] 33)) (only_alloc w _) (by simp)
 have HW := Lib.hid (And.intro h1 hr)
 clear h hr h1 hlt
 cases e : (kd != 0) with
 | true =>
  go_enter Tryz.func6, Tryz.ntmps6
  go_wp2_with fail
  refine (start_any HW.out.1 t kd hh k h64 hl).mono ?_
  intro w' F' k1 k2 k3
  go_wp2_with fail
  (try simp only [Exit.inBlock, Exit.then])
  refine bodyPost_ret (results_none rfl _ _ _) rfl ?_
  refine ⟨rfl, F', ?_, (only_alloc w _).wide (by simp) |>.trans k2, fun x hx => (k3 x hx).imp id fun h => by simp at h; omega⟩
  have : kd ≠ 0 := by simpa using e
  unfold doW
  rw [if_pos this]
  exact k1
 | false =>
  have hdo : doW c s t kd hh k = picks c s t (hh % 64) := by
   have : ¬ kd ≠ 0 := by simpa using e
   unfold doW
   rw [if_neg this]
  obtain ⟨N, hNe⟩ : ∃ N, hh % 64 = N := ⟨_, rfl⟩
  have hN2 : N < 64 := by omega
  have hN : ((hh : Int) % 64) = (N : Int) := by omega
  rw [hNe] at hdo
  rw [hdo]
  clear hdo
  go_enter Tryz.func6, Tryz.ntmps6
  go_wp2_with fail
  rw [hN]
  clear hN hNe
  have hpar := blk_new w (.cells #[.int .i64 t, .int .i64 kd, .int .u64 (hh : Int), .int .i64 k] 33)
  have hWs : w.heap.size < (w.alloc (.cells #[.int .i64 t, .int .i64 kd, .int .u64 (hh : Int), .int .i64 k] 33)).heap.size := by simp
  generalize hW1 : w.alloc (.cells #[.int .i64 t, .int .i64 kd, .int .u64 (hh : Int), .int .i64 k] 33) = W1 at *
  have HPar := Lib.hid hpar
  have HWs := Lib.hid hWs
  have hA1 : Only [] w W1 := hW1 ▸ only_alloc w _
  have HA1 := Lib.hid hA1
  clear hpar hWs hA1 hW1
  go_loopw [18] (fun i wr => ∃ (s' : Wd) (m : Nat) (F' : List Nat), i = .int .u64 (m : Int) ∧ m ≤ N ∧ Hid (picks c s t N = picks c s' t (N - m)) ∧ Hid (WorldAt c wd s' wr F' ∧ Reach c s' ∧ s'.n ≤ s.n + m ∧ Only F W1 wr ∧ ∀ x ∈ F', x ∈ F ∨ W1.heap.size ≤ x)) (fun i _ => N - (intOf i).toNat)
  case atStart => exact ⟨s, 0, F, rfl, Nat.zero_le _, Lib.hid rfl, Lib.hid ⟨HW.out.1, HW.out.2, by omega, .of (Below.refl _ _), fun x hx => .inl hx⟩⟩
  case round =>
   obtain ⟨s', m, F', rfl, hm, hpk, hD⟩ := hrel
   have fin : ∀ {w2 : World} {F2 : List Nat}, WorldAt c wd s' w2 F2 → picks c s t N = s' → Only F W1 w2 → (∀ x ∈ F2, x ∈ F ∨ W1.heap.size ≤ x) → ∃ F2, WorldAt c wd (picks c s t N) w2 F2 ∧ Only F w w2 ∧ ∀ x ∈ F2, x ∈ F ∨ w.heap.size ≤ x := by
    intro w2 F2 h1 h2 h3 h4
    exact ⟨F2, by rw [h2]; exact h1, (HA1.out.wide (by simp)).trans h3, fun x hx => (h4 x hx).imp id fun h => by have := HWs.out; omega⟩
   by_cases hlt : m < N
   ·have hpc : wr.cell? ⟨w.heap.size, 0, none⟩ = some (.int .i64 t) := by
     have h1 := hD.out.2.2.2.1.block w.heap.size HWs.out (fun hm => by have := HLt.out _ hm; omega)
     rw [blk_cell (h1.trans HPar.out)]
     rfl
    have hkeep := hD.out.1.keep (L := []) (w' := wr.alloc (.cells #[.int .i64 t] 3)) (only_alloc wr _) (by simp)
    have hP := Pick_any hkeep hD.out.2.1 hc (by have := hD.out.2.2.1; omega) (b := wr.heap.size) (cap := 1) (id := t) (blk_new wr _) (fun hm => by have := hD.out.1.all_lt _ hm; omega)
    have HP := Lib.hid hP
    clear hkeep hP
    go_wp2_with fail
    refine HP.out.mono ?_
    rintro e w2 ⟨rfl, F2, k1, k2, k3⟩
    have hO : Only F W1 w2 := only_then (hD.out.2.2.2.1.trans ((only_alloc wr _).wide (by simp))) k2 (by
     have hsz : W1.heap.size ≤ (wr.alloc (.cells #[.int .i64 t] 3)).heap.size := Nat.le_trans hD.out.2.2.2.1.size (only_alloc wr _).size
     intro x hx
     rcases List.mem_cons.1 hx with rfl | hx
     ·exact .inr hD.out.2.2.2.1.size
     ·exact hD.out.2.2.2.2 x hx)
    have hF : ∀ x ∈ F2, x ∈ F ∨ W1.heap.size ≤ x := by
     intro x hx
     rcases k3 x hx with h1 | h1
     ·exact hD.out.2.2.2.2 x h1
     ·exact .inr (Nat.le_trans (Nat.le_trans hD.out.2.2.2.1.size (only_alloc wr _).size) h1)
    have HD2 := Lib.hid (And.intro k1 (And.intro (reach_stepZ hD.out.2.1 t) (And.intro hO hF)))
    clear k1 k2 k3 hO hF
    cases hs : (wstepZ c s' t).1 with
    | true =>
     rw [show vi ((true.toNat : Nat) : Int) = .int .i64 1 from rfl]
     have HS := Lib.hid hs
     clear hs
     go_wp2_with fail
     go_roundw
     case rel => exact ⟨(wstepZ c s' t).2, m + 1, F2, by go_num, by omega, Lib.hid (by
      rw [hpk.out, show N - m = (N - (m + 1)) + 1 by omega]
      exact picks_go HS.out), Lib.hid ⟨HD2.out.1, HD2.out.2.1, by have := hD.out.2.2.1; have := (stepZ_n (c := c) (s := s') (id := t)).1; omega, HD2.out.2.2.1, HD2.out.2.2.2⟩⟩
     case measure => simp [intOf] <;> omega
    | false =>
     rw [show vi ((false.toNat : Nat) : Int) = .int .i64 0 from rfl]
     have HS := Lib.hid hs
     clear hs
     go_wp2_with fail
     (try simp only [Exit.inBlock, Exit.then])
     refine bodyPost_ret (results_none rfl _ _ _) rfl ?_
     exact ⟨rfl, fin (by have := HD2.out.1; rw [stepZ_no HS.out] at this; exact this) (by rw [hpk.out]; exact picks_no HS.out) HD2.out.2.2.1 HD2.out.2.2.2⟩
   ·have hmN : m = N := by omega
    have HM := Lib.hid hmN
    clear hmN
    go_wp2_with fail
    go_end0
    exact ⟨rfl, fin hD.out.1 (by rw [hpk.out, HM.out, Nat.sub_self]; rfl) hD.out.2.2.2.1 hD.out.2.2.2.2⟩
end Go.Proofs.YtfinmiakbpmjiaaGreat.Um
