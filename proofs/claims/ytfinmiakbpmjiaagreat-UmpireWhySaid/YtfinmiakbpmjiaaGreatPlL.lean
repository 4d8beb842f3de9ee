/-
  The plain law: who fails.
-/
import Derived.Test.YtfinmiakbpmjiaaGreatPlA
set_option linter.unusedSimpArgs false
set_option linter.unusedVariables false
namespace Go.Proofs.YtfinmiakbpmjiaaGreat.Um
open Go Go.RowKit Go.Proofs.YtfinmiakbpmjiaaGreat Go.Proofs.YtfinmiakbpmjiaaGreat.Ax
def endA : Kd → Int → Prop
 | .c, e => e = 0 ∨ e = 6 ∨ e = 7
 | .a, e => e = 0
 | .r, e => e = 7 ∨ e = 8
 | .w, e => e = 7 ∨ e = 8
 | _, _ => False
def endEv (ev : Ev) : Prop := ev.dn = true ∧ ∃ q : Kd, ev.kd = q.num ∧ endA q ev.a.e
def tkOf : Mach → Option Nat
 | .rEnter h _ _ => some h | .rSnap h _ => some h | .rLook h _ _ => some h | .rMark h _ _ _ => some h | .rJoin h _ _ _ _ _ => some h | .rOwn h _ _ _ _ _ => some h | .rLeave h _ _ _ _ => some h
 | .wEnter h _ _ => some h | .wSnap h _ => some h | .wLook h _ _ => some h | .wRival h _ _ _ _ _ => some h | .wNumber h _ _ _ _ _ => some h | .wMark h _ _ _ => some h | .wJoin h _ _ _ _ _ => some h | .wOwn h _ _ _ _ _ => some h | .wLeave h _ _ _ _ => some h
 | .cEnter h _ => some h | .cJudge h => some h | .cDoom h _ => some h | .cPromise h _ => some h | .cCount h => some h | .cHelp h _ _ => some h | .cNumber h _ => some h | .cNote h _ _ _ => some h | .cLeave h _ _ _ => some h
 | .aEnter h _ => some h | .aThen h => some h | .aLeave h _ => some h
 | _ => none
theorem tkOf_op {m : Mach} {x : Nat} {kd h k : Int} (e : tkOf m = some x) (ho : opR kd h k m) : h = (x : Int) := by
 cases m <;> simp only [tkOf, reduceCtorEq, Option.some.injEq] at e <;> subst e
 all_goals first | exact ho.2.1 | exact ho.2
section
variable {c : Cfg} {M : Mm} {id : Nat}
theorem estep_noE {h : Nat} {ok : Nat → Bool} {p : EP} {x : Int} (e : (estep M h ok p).2 = .no x) : x ≠ 0 ∧ x ≠ 6 ∧ x ≠ 7 ∧ x ≠ 8 := by
 have := estep_no e; omega
theorem lstep_none {i : Nat} {ab : Bool} {p : EP} (e : (lstep M i ab p).2 = none) : ∃ s, p = .swap s ∧ M (.status i) = s ∧ upd M (lstep M i ab p).1.1 (lstep M i ab p).1.2 = upd M (.status i) (St.moveN s (if ab then 5 else stOf s) false) := by
 cases p with
 | look => cases e
 | swap s =>
  unfold lstep at e
  simp only at e
  split at e
  ·rename_i h1
   exact ⟨s, rfl, h1, cas_hit _ _ h1⟩
  ·cases e
theorem left_ended {h s : Nat} {P : Nat → Prop} (k : own2 M h P) (e : M (.status (sl h)) = s) : EndedAt (upd M (.status (sl h)) (St.moveN s 5 false)) h := by
 right
 refine ⟨?_, ?_, fun e4 => ?_⟩
 ·simp only [sG, upd_at]; rw [gn_move _ _ _ (by omega), ← e]; exact k.2.1.symm
 ·simp only [sS, upd_at]; rw [st_move _ _ _ (by omega)]; omega
 ·simp only [sS, upd_at] at e4; rw [st_move _ _ _ (by omega)] at e4; omega
theorem mstep_ends (m : Mach) (hw : wdOK m) (ho : ownR M m) (hl : ∀ h p a, m = .cLeave h false p a → M (.number (sl h)) ≠ 0) {kd : Kd} {a : Ans} (e : (mstep c id M m).2 = .done kd a) (he : endA kd a.e) (hd : ∀ kd a, m ≠ .done kd a) :
  ∃ x, tkOf m = some x ∧ EndedAt (upd M (mstep c id M m).1.1 (mstep c id M m).1.2) x := by
 have rn : ∀ {x k n : Nat} (r : List Nat), rNext x k n r ≠ .done kd a := by intro x k n r; cases r <;> (intro h; cases h)
 have wn : ∀ {x k n : Nat} (r : List Nat), wNext x k n r ≠ .done kd a := by intro x k n r; cases r <;> (intro h; cases h)
 have wg : ∀ {x k n w : Nat} (r : List Nat), wGoes x k n w r ≠ .done kd a := by
  intro x k n w r
  cases r with
  | nil =>
   simp only [wGoes]
   split
   ·exact wn _
   ·intro h; cases h
  | cons j r => intro h; cases h
 cases m
 case rEnter h k p =>
  simp only [mstep] at e
  split at e
  ·rename_i e1; cases e; have := estep_noE e1; simp only [endA] at he; omega
  ·cases e
  ·cases e
 case wEnter h k p =>
  simp only [mstep] at e
  split at e
  ·rename_i e1; cases e; have := estep_noE e1; simp only [endA] at he; omega
  ·cases e
  ·cases e
 case cEnter h p =>
  simp only [mstep] at e
  split at e
  ·rename_i e1; cases e; have := estep_noE e1; simp only [endA] at he; omega
  ·cases e
  ·cases e
 case aEnter h p =>
  simp only [mstep] at e
  split at e
  ·rename_i e1; cases e; have := estep_noE e1; simp only [endA] at he; omega
  ·cases e
  ·cases e
 case rLeave h k ab p x =>
  simp only [mstep] at e ⊢
  split at e
  ·cases e
  ·rename_i e1
   cases e
   obtain ⟨s, rfl, h1, h2⟩ := lstep_none e1
   rcases hw with ⟨rfl, rfl⟩ | ⟨rfl, rfl⟩
   ·simp [endA] at he
   ·exact ⟨h, rfl, by rw [h2]; exact left_ended (P := (· = 2)) ho h1⟩
 case wLeave h k ab p x =>
  simp only [mstep] at e ⊢
  split at e
  ·cases e
  ·rename_i e1
   cases e
   obtain ⟨s, rfl, h1, h2⟩ := lstep_none e1
   rcases hw with ⟨rfl, rfl⟩ | ⟨rfl, _⟩
   ·simp [endA] at he
   ·exact ⟨h, rfl, by rw [h2]; exact left_ended (P := (· = 2)) ho h1⟩
 case cDoom h s =>
  by_cases h1 : M (.status (sl h)) = s
  ·refine ⟨h, rfl, ?_⟩
   show EndedAt (upd M (cas M (.status (sl h)) s (St.moveN s 5 false)).1 (cas M (.status (sl h)) s (St.moveN s 5 false)).2) h
   rw [cas_hit _ _ h1]
   exact left_ended (P := (· = 2)) ho h1
  ·simp only [mstep] at e; rw [if_neg h1] at e; cases e
 case cLeave h ab p a' =>
  simp only [mstep] at e ⊢
  split at e
  ·cases e
  ·rename_i e1
   cases e
   obtain ⟨s, rfl, h1, h2⟩ := lstep_none e1
   refine ⟨h, rfl, ?_⟩
   rw [h2]
   cases ab
   ·have hn := hl h _ _ rfl
    have h4 := ho.2 rfl
    have h5 : stOf s = 4 := by rw [← h1]; exact h4
    right
    simp only [Bool.false_eq_true, if_false, h5]
    refine ⟨?_, ?_, fun _ => ?_⟩
    ·simp only [sG, upd_at]; rw [gn_move _ _ _ (by omega), ← h1]; exact ho.1.2.1.symm
    ·simp only [sS, upd_at]; rw [st_move _ _ _ (by omega)]; omega
    ·rw [upd_ne _ _ (by intro e; cases e)]; exact hn
   ·exact left_ended (P := fun s => s = 3 ∨ s = 4) ho.1 h1
 case aLeave h p =>
  simp only [mstep] at e ⊢
  split at e
  ·cases e
  ·rename_i e1
   cases e
   obtain ⟨s, rfl, h1, h2⟩ := lstep_none e1
   exact ⟨h, rfl, by rw [h2]; exact left_ended (P := (· = 2)) ho h1⟩
 case done kd' a' => exact (hd kd' a' rfl).elim
 case rLook => simp only [mstep] at e; split at e; exact (rn _ e).elim; cases e
 case rMark => simp only [mstep] at e; split at e; exact (rn _ e).elim; cases e
 case rJoin => simp only [mstep] at e; split at e; cases e; exact (rn _ e).elim; cases e; cases e
 case rOwn => simp only [mstep] at e; split at e; cases e; exact (rn _ e).elim
 case wLook => exact (wg _ e).elim
 case wRival => simp only [mstep] at e; split at e; cases e; split at e; cases e; exact (wg _ e).elim
 case wNumber => simp only [mstep] at e; split at e; exact (wg _ e).elim; cases e
 case wMark => simp only [mstep] at e; split at e; exact (wn _ e).elim; cases e
 case wJoin => simp only [mstep] at e; split at e; cases e; exact (wn _ e).elim; cases e; cases e
 case wOwn => simp only [mstep] at e; split at e; cases e; exact (wn _ e).elim
 case sAged h j num sn =>
  cases sn <;> simp only [mstep, sAges] at e <;> repeat' (split at e)
  all_goals cases e
 all_goals
  simp only [mstep, oGoes, sAges, sGraces, sGoes, sKey, sOther] at e
  repeat' (split at e)
  all_goals first | (cases e; done) | (cases e; exact he.elim)
theorem seq_mono (hr : c.right) (m : Mach) (hm : mOK c id m) : seqN M ≤ seqN (upd M (mstep c id M m).1.1 (mstep c id M m).1.2) ∧ ((1 ≤ M .tally % 16 → 1 ≤ M .tally / 16) → 1 ≤ upd M (mstep c id M m).1.1 (mstep c id M m).1.2 .tally % 16 → 1 ≤ upd M (mstep c id M m).1.1 (mstep c id M m).1.2 .tally / 16) := by
 have far : ∀ {s : Spot} {v : Nat}, s ≠ .tally → seqN M ≤ seqN (upd M s v) ∧ ((1 ≤ M .tally % 16 → 1 ≤ M .tally / 16) → 1 ≤ upd M s v .tally % 16 → 1 ≤ upd M s v .tally / 16) := by
  intro s v h
  have e : upd M s v .tally = M .tally := upd_ne _ _ (Ne.symm h)
  unfold seqN; rw [e]; exact ⟨Nat.le_refl _, fun h => h⟩
 have same : ∀ {s : Spot}, seqN M ≤ seqN (upd M (ld M s).1 (ld M s).2) ∧ ((1 ≤ M .tally % 16 → 1 ≤ M .tally / 16) → 1 ≤ upd M (ld M s).1 (ld M s).2 .tally % 16 → 1 ≤ upd M (ld M s).1 (ld M s).2 .tally / 16) := by
  intro s; rw [upd_ld]; exact ⟨Nat.le_refl _, fun h => h⟩
 have hs : ∀ {w : Nat} {p : HP}, seqN M ≤ seqN (upd M (hstep M w p).1.1 (hstep M w p).1.2) ∧ ((1 ≤ M .tally % 16 → 1 ≤ M .tally / 16) → 1 ≤ upd M (hstep M w p).1.1 (hstep M w p).1.2 .tally % 16 → 1 ≤ upd M (hstep M w p).1.1 (hstep M w p).1.2 .tally / 16) := by
  intro w p
  cases p with
  | number => exact far (by intro e; cases e)
  | look => exact same
  | lay s => exact far (by intro e; cases e)
  | settle =>
   show seqN M ≤ seqN (upd M (cas M .tally w (w / 16 * 16)).1 (cas M .tally w (w / 16 * 16)).2) ∧ (_ → 1 ≤ upd M (cas M .tally w (w / 16 * 16)).1 (cas M .tally w (w / 16 * 16)).2 .tally % 16 → 1 ≤ upd M (cas M .tally w (w / 16 * 16)).1 (cas M .tally w (w / 16 * 16)).2 .tally / 16)
   by_cases e : M .tally = w
   ·rw [cas_hit _ _ e]
    unfold seqN
    rw [upd_at, e]
    omega
   ·rw [cas_miss _ _ e]; exact ⟨Nat.le_refl _, fun h => h⟩
 cases m
 case oHelp => exact hs
 case cHelp => exact hs
 case cNote => exact hs
 case cNumber h w =>
  obtain ⟨b1, b2, b3, b4⟩ := hm
  have k := tk_of b1
  obtain ⟨a1, a2, a3, a4, a5, a6, a7, a8, a9, a10⟩ := hr
  have hnx : nextN w (sl h : Int) = 16 * (w / 16 + 1) + (sl h + 1) := by
   unfold nextN
   rw [(Ta.next_yes (x := (w : Int)) (p := (sl h : Int)) ⟨by omega, by omega, by omega, by omega⟩).2]
   omega
  show seqN M ≤ seqN (upd M (cas M .tally w (nextN w (sl h : Int))).1 (cas M .tally w (nextN w (sl h : Int))).2) ∧ (_ → 1 ≤ upd M (cas M .tally w (nextN w (sl h : Int))).1 (cas M .tally w (nextN w (sl h : Int))).2 .tally % 16 → 1 ≤ upd M (cas M .tally w (nextN w (sl h : Int))).1 (cas M .tally w (nextN w (sl h : Int))).2 .tally / 16)
  by_cases e : M .tally = w
  ·rw [cas_hit _ _ e]
   unfold seqN
   rw [upd_at, hnx, e]
   omega
  ·rw [cas_miss _ _ e]; exact ⟨Nat.le_refl _, fun h => h⟩
 case sAged h j num sn => cases sn <;> exact same
 all_goals
  first
  | exact same
  | (refine far ?_; intro e; cases e; done)
  | (rename_i p; cases p <;> first | exact same | exact far (by intro e; cases e))
  | (rename_i p _; cases p <;> first | exact same | exact far (by intro e; cases e))
end
structure NumI (c : Cfg) (s : Wd) : Prop where
 n0 : 1 ≤ s.M .tally % 16 → 1 ≤ s.M .tally / 16
 n1 : ∀ i : Nat, s.M (.number i) ≤ seqN s.M
 hw : ∀ (t : Nat) (m : Mach) (w : Nat), (t : Int) < c.T → s.th t = .work m → helpW m = some w → w / 16 ≤ seqN s.M ∧ 1 ≤ w / 16
 note : ∀ (t h w hw : Nat) (p : HP), (t : Int) < c.T → s.th t = .work (.cNote h w hw p) → p ≠ .number → s.M (.number (sl h)) ≠ 0
 leave : ∀ (t h : Nat) (p : EP) (a : Ans), (t : Int) < c.T → s.th t = .work (.cLeave h false p a) → s.M (.number (sl h)) ≠ 0
 pinD : ∀ (t : Nat) (m : Mach), (t : Int) < c.T → (s.th t = .pinLoad m ∨ ∃ e, s.th t = .pinLay e m) → ∀ kd a, m = .done kd a → a.e = 2 ∨ a.e = 5
 ended : ∀ (j : Nat) (ev : Ev), s.evs[j]? = some ev → endEv ev → EndedAt s.M ev.h
 endT : ∀ (t : Nat) (kd : Kd) (a : Ans), (t : Int) < c.T → s.th t = .leave kd a → endA kd a.e → ∀ ev : Ev, s.evs[s.at_ t]? = some ev → EndedAt s.M ev.h
theorem help_slot {m : Mach} {w : Nat} (h : helpW m = some w) : slotOf m ≠ none := by
 cases m <;> simp [helpW, slotOf] at h ⊢
section
variable {c : Cfg} {M : Mm} {id : Nat}
theorem help_from (m : Mach) {w : Nat} (h : helpW (mstep c id M m).2 = some w) : helpW m = some w ∨ (w = M .tally ∧ 1 ≤ M .tally % 16) ∨ ∃ x w0, m = .cNumber x w0 ∧ M .tally = w0 ∧ w = nextN w0 (sl x : Int) := by
 have rn : ∀ {x k n : Nat} (r : List Nat), helpW (rNext x k n r) = none := by intro x k n r; cases r <;> rfl
 have wn : ∀ {x k n : Nat} (r : List Nat), helpW (wNext x k n r) = none := by intro x k n r; cases r <;> rfl
 have wg : ∀ {x k n w : Nat} (r : List Nat), helpW (wGoes x k n w r) = none := by
  intro x k n w r
  cases r with
  | nil =>
   simp only [wGoes]
   split
   ·exact wn _
   ·rfl
  | cons j r => rfl
 cases m
 case oTally i s =>
  simp only [mstep] at h
  split at h
  ·rename_i h1; cases h; exact .inr (.inl ⟨rfl, h1⟩)
  ·cases h
 case cCount x =>
  simp only [mstep] at h
  split at h
  ·rename_i h1; cases h; exact .inr (.inl ⟨rfl, h1⟩)
  ·split at h <;> cases h
 case cNumber x w0 =>
  simp only [mstep] at h
  split at h
  ·rename_i h1; cases h; exact .inr (.inr ⟨x, w0, rfl, h1, rfl⟩)
  ·cases h
 case oHelp i s w0 p =>
  simp only [mstep] at h
  split at h
  ·exact .inl h
  ·cases h
 case cHelp x w0 p =>
  simp only [mstep] at h
  split at h
  ·exact .inl h
  ·cases h
 case cNote x w1 w0 p =>
  simp only [mstep] at h
  split at h
  ·exact .inl h
  ·cases h
 case sAged x j num sn =>
  cases sn <;> simp only [mstep, sAges] at h <;> repeat' (split at h)
  all_goals cases h
 all_goals
  simp only [mstep, oGoes, rFound, wFound, sAges, sGraces, sGoes, sKey, sOther] at h
  repeat' (split at h)
  all_goals first | (cases h; done) | (rw [rn] at h; cases h) | (rw [wn] at h; cases h) | (rw [wg] at h; cases h)
theorem to_cnote {m : Mach} {h w hw : Nat} {p : HP} (e : (mstep c id M m).2 = .cNote h w hw p) : (m = .cNumber h w ∧ p = .number ∧ hw = nextN w (sl h : Int) ∧ M .tally = w) ∨ ∃ p0, m = .cNote h w hw p0 ∧ (hstep M hw p0).2 = some p := by
 have rn : ∀ {x k n : Nat} (r : List Nat), rNext x k n r ≠ .cNote h w hw p := by intro x k n r; cases r <;> (intro h; cases h)
 have wn : ∀ {x k n : Nat} (r : List Nat), wNext x k n r ≠ .cNote h w hw p := by intro x k n r; cases r <;> (intro h; cases h)
 have wg : ∀ {x k n v : Nat} (r : List Nat), wGoes x k n v r ≠ .cNote h w hw p := by
  intro x k n v r
  cases r with
  | nil =>
   simp only [wGoes]
   split
   ·exact wn _
   ·intro h; cases h
  | cons j r => intro h; cases h
 cases m
 case cNumber x w0 =>
  simp only [mstep] at e
  split at e
  ·rename_i h1; cases e; exact .inl ⟨rfl, rfl, rfl, h1⟩
  ·cases e
 case cNote x w1 w0 p0 =>
  simp only [mstep] at e
  split at e
  ·rename_i e1; cases e; exact .inr ⟨_, rfl, e1⟩
  ·cases e
 case sAged x j num sn =>
  cases sn <;> simp only [mstep, sAges] at e <;> repeat' (split at e)
  all_goals cases e
 all_goals
  simp only [mstep, oGoes, rFound, wFound, sAges, sGraces, sGoes, sKey, sOther] at e
  repeat' (split at e)
  all_goals first | (cases e; done) | exact (rn _ e).elim | exact (wn _ e).elim | exact (wg _ e).elim
theorem to_cleave {m : Mach} {h : Nat} {p : EP} {a : Ans} (e : (mstep c id M m).2 = .cLeave h false p a) : (∃ w hw, m = .cNote h w hw .settle ∧ p = .look) ∨ ∃ p0, m = .cLeave h false p0 a := by
 have rn : ∀ {x k n : Nat} (r : List Nat), rNext x k n r ≠ .cLeave h false p a := by intro x k n r; cases r <;> (intro h; cases h)
 have wn : ∀ {x k n : Nat} (r : List Nat), wNext x k n r ≠ .cLeave h false p a := by intro x k n r; cases r <;> (intro h; cases h)
 have wg : ∀ {x k n v : Nat} (r : List Nat), wGoes x k n v r ≠ .cLeave h false p a := by
  intro x k n v r
  cases r with
  | nil =>
   simp only [wGoes]
   split
   ·exact wn _
   ·intro h; cases h
  | cons j r => intro h; cases h
 cases m
 case cNote x w1 w0 p0 =>
  simp only [mstep] at e
  split at e
  ·cases e
  ·rename_i e1
   cases p0 with
   | settle => cases e; exact .inl ⟨_, _, rfl, rfl⟩
   | number => cases e1
   | look => cases e1
   | lay s => cases e1
 case cLeave x ab p0 a0 =>
  simp only [mstep] at e
  split at e
  ·cases e; exact .inr ⟨_, rfl⟩
  ·cases e
 case sAged x j num sn =>
  cases sn <;> simp only [mstep, sAges] at e <;> repeat' (split at e)
  all_goals cases e
 all_goals
  simp only [mstep, oGoes, rFound, wFound, sAges, sGraces, sGoes, sKey, sOther] at e
  repeat' (split at e)
  all_goals first | (cases e; done) | exact (rn _ e).elim | exact (wn _ e).elim | exact (wg _ e).elim
end
theorem next_val {c : Cfg} (hr : c.right) {h w : Nat} (b1 : tk c h) (b3 : w % 16 = 0) (b4 : ((w / 16 : Nat) : Int) < c.Q) : nextN w (sl h : Int) = 16 * (w / 16 + 1) + (sl h + 1) := by
 have k := tk_of b1
 obtain ⟨a1, a2, a3, a4, a5, a6, a7, a8, a9, a10⟩ := hr
 unfold nextN
 rw [(Ta.next_yes (x := (w : Int)) (p := (sl h : Int)) ⟨by omega, by omega, by omega, by omega⟩).2]
 omega
theorem ev_h (n : Nat) (st : TSt) (ev : Ev) : (evStep n st ev).h = ev.h ∧ (evStep n st ev).kd = ev.kd ∧ (evStep n st ev).k = ev.k ∧ (evStep n st ev).thr = ev.thr := by
 unfold evStep
 split <;> exact ⟨rfl, rfl, rfl, rfl⟩
theorem ev_dn {n : Nat} {st : TSt} {ev : Ev} (h : isIdle st = false) : (evStep n st ev).dn = ev.dn ∧ (evStep n st ev).a = ev.a ∧ (evStep n st ev).en = ev.en := by
 cases st <;> first | exact ⟨rfl, rfl, rfl⟩ | cases h
theorem ev_from {c : Cfg} {s : Wd} (hst : Str c s) {id : Nat} (hid : (id : Int) < c.T) (hi : isIdle (s.th id) = false) {n : Nat} {st' : TSt} {j : Nat} {ev' : Ev} (h : (s.evs.modify (s.at_ id) (evStep n st'))[j]? = some ev') :
  ∃ ev, s.evs[j]? = some ev ∧ ((j ≠ s.at_ id ∧ ev' = ev) ∨ (j = s.at_ id ∧ ev' = evStep n st' ev ∧ ev.dn = false ∧ ev.thr = id)) := by
 rw [modify_at] at h
 by_cases hj : s.at_ id = j
 ·rw [if_pos hj] at h
  cases he : s.evs[j]? with
  | none => rw [he] at h; cases h
  | some ev =>
   rw [he] at h
   cases h
   obtain ⟨ev2, h1, h2, h3⟩ := hst.at_ id hid hi
   rw [hj, he] at h1
   cases h1
   exact ⟨ev, rfl, .inr ⟨hj.symm, rfl, h2, h3⟩⟩
 ·rw [if_neg hj] at h
  exact ⟨ev', h, .inl ⟨fun e => hj e.symm, rfl⟩⟩
theorem num_step {c : Cfg} {s : Wd} (hr : c.right) (hst : Str c s) (ho : OwnI c s) (h : NumI c s) (id : Nat) (hid : (id : Int) < c.T) : NumI c (wstep c s id).2 := by
 unfold wstep
 by_cases hi' : isIdle (s.th id) = true
 ·rw [if_pos hi']; exact h
 rw [if_neg hi']
 have hi : isIdle (s.th id) = false := by simpa using hi'
 have hm := hst.tok id hid
 have hw := hst.wd id hid
 have h0 := ho.own id hid
 have hpl : ∀ e m, s.th id = .pinLay e m → slotOf m = none := by
  intro e m h1; rw [h1] at h0; exact h0
 have hlp : ∀ m w, s.th id = .work m → helpW m = some w → 1 ≤ w / 16 := fun m w e1 e2 => (h.hw id m w hid e1 e2).2
 have hend : ∀ x, EndedAt s.M x → EndedAt (upd s.M (tstep c id s.M (s.th id)).1.1 (tstep c id s.M (s.th id)).1.2) x := fun x hx => ended_step hr _ hm hw h0 hlp hx
 have hseq : seqN s.M ≤ seqN (upd s.M (tstep c id s.M (s.th id)).1.1 (tstep c id s.M (s.th id)).1.2) ∧ ((1 ≤ s.M .tally % 16 → 1 ≤ s.M .tally / 16) → 1 ≤ upd s.M (tstep c id s.M (s.th id)).1.1 (tstep c id s.M (s.th id)).1.2 .tally % 16 → 1 ≤ upd s.M (tstep c id s.M (s.th id)).1.1 (tstep c id s.M (s.th id)).1.2 .tally / 16) := by
  have far : ∀ {sp : Spot} {v : Nat}, sp ≠ .tally → seqN s.M ≤ seqN (upd s.M sp v) ∧ ((1 ≤ s.M .tally % 16 → 1 ≤ s.M .tally / 16) → 1 ≤ upd s.M sp v .tally % 16 → 1 ≤ upd s.M sp v .tally / 16) := by
   intro sp v hne
   have e : upd s.M sp v .tally = s.M .tally := upd_ne _ _ (Ne.symm hne)
   unfold seqN; rw [e]; exact ⟨Nat.le_refl _, fun h => h⟩
  cases hth : s.th id with
  | idle a => rw [hth] at hi; cases hi
  | pinLoad m => simp only [tstep, upd_ld]; exact ⟨Nat.le_refl _, fun h => h⟩
  | pinLay e m => exact far (by intro e; cases e)
  | leave kd a => exact far (by intro e; cases e)
  | work m => rw [hth] at hm; exact seq_mono hr m hm.1
 -- numbers
 have hnum : ∀ i, upd s.M (tstep c id s.M (s.th id)).1.1 (tstep c id s.M (s.th id)).1.2 (.number i) = s.M (.number i) ∨ (s.M (.number i) = 0 ∧ ∃ w, 1 ≤ w / 16 ∧ w / 16 ≤ seqN s.M ∧ upd s.M (tstep c id s.M (s.th id)).1.1 (tstep c id s.M (s.th id)).1.2 (.number i) = w / 16) ∨
   ∃ x, s.th id = .work (.sNought x) ∧ sl x = i ∧ upd s.M (tstep c id s.M (s.th id)).1.1 (tstep c id s.M (s.th id)).1.2 (.number i) = 0 := by
  intro i
  have far : ∀ {sp : Spot} {v : Nat}, sp ≠ .number i → upd s.M sp v (.number i) = s.M (.number i) := fun hne => upd_ne _ _ (Ne.symm hne)
  cases hth : s.th id with
  | idle a => rw [hth] at hi; cases hi
  | pinLoad m => left; simp only [tstep, upd_ld]
  | pinLay e m => left; exact far (by intro e; cases e)
  | leave kd a => left; exact far (by intro e; cases e)
  | work m =>
   rcases step_num (c := c) (id := id) (M := s.M) m i with e | ⟨e1, w, e2, e3⟩ | ⟨x, rfl, e2, e3⟩
   ·exact .inl e
   ·have := h.hw id m w hid hth e2
    exact .inr (.inl ⟨e1, w, this.2, this.1, e3⟩)
   ·exact .inr (.inr ⟨x, rfl, e2, e3⟩)
 -- a number that stands stays, but by its sweep
 have hkeep : ∀ (t : Nat) (i : Nat), (t : Int) < c.T → (∃ m, s.th t = .work m ∧ slotOf m = some i ∧ ∀ x, m ≠ .sNought x) → s.M (.number i) ≠ 0 → upd s.M (tstep c id s.M (s.th id)).1.1 (tstep c id s.M (s.th id)).1.2 (.number i) ≠ 0 := by
  rintro t i ht ⟨m, e1, e2, e3⟩ hne
  rcases hnum i with e | ⟨e, _⟩ | ⟨x, h1, h2, h3⟩
  ·rw [e]; exact hne
  ·exact (hne e).elim
  ·exfalso
   by_cases htid : t = id
   ·subst htid
    rw [e1] at h1
    cases h1
    exact e3 x rfl
   ·refine ho.uniq t id ht hid htid i (by rw [e1]; exact e2) ?_
    rw [h1]
    show some (sl x) = some i
    rw [h2]
 generalize hM' : upd s.M (tstep c id s.M (s.th id)).1.1 (tstep c id s.M (s.th id)).1.2 = M' at hend hseq hnum hkeep ⊢
 generalize hst' : (tstep c id s.M (s.th id)).2 = st'
 have hwk : ∀ m', st' = .work m' → slotOf m' ≠ none → ∃ m, s.th id = .work m ∧ (mstep c id s.M m).2 = m' := fun m' e1 e2 => tstep_work (hst'.trans e1) hpl e2
 refine ⟨hseq.2 h.n0, fun i => ?_, fun t m w ht hth hhw => ?_, fun t x w hw' p ht hth hp => ?_, fun t x p a ht hth => ?_, fun t m ht hth => ?_, fun j ev' hj he => ?_, fun t kd a ht hth ha ev' hj => ?_⟩
 ·show M' (.number i) ≤ seqN M'
  have h1 := hseq.1
  rcases hnum i with e | ⟨e, w, e1, e2, e3⟩ | ⟨x, _, _, e3⟩
  ·rw [e]; have := h.n1 i; omega
  ·rw [e3]; omega
  ·rw [e3]; omega
 ·show w / 16 ≤ seqN M' ∧ 1 ≤ w / 16
  have h1 := hseq.1
  by_cases htid : t = id
  ·subst htid
   simp only [setF_same] at hth
   obtain ⟨m0, e1, e2⟩ := hwk m hth (help_slot hhw)
   rw [← e2] at hhw
   rcases help_from m0 hhw with h2 | ⟨h2, h3⟩ | ⟨x, w0, rfl, h3, h4⟩
   ·have := h.hw t m0 w ht e1 h2; omega
   ·have h5 := h.n0 h3
    have : seqN s.M = s.M .tally / 16 := rfl
    rw [h2]; omega
   ·rw [e1] at hm
    have hnx := next_val hr hm.1.1 hm.1.2.2.1 hm.1.2.2.2
    have k := tk_of hm.1.1
    have h5 : (seqN M' : Nat) = nextN w0 (sl x : Int) / 16 := by
     rw [← hM', e1]
     show seqN (upd s.M (cas s.M .tally w0 (nextN w0 (sl x : Int))).1 (cas s.M .tally w0 (nextN w0 (sl x : Int))).2) = _
     rw [cas_hit _ _ h3]
     unfold seqN
     rw [upd_at]
    rw [h4, h5]
    omega
  ·simp only [setF_other _ _ htid] at hth
   have := h.hw t m w ht hth hhw
   omega
 ·show M' (.number (sl x)) ≠ 0
  by_cases htid : t = id
  ·subst htid
   simp only [setF_same] at hth
   obtain ⟨m0, e1, e2⟩ := hwk _ hth (by simp [slotOf])
   rcases to_cnote e2 with ⟨_, h3, _⟩ | ⟨p0, rfl, h3⟩
   ·exact (hp h3).elim
   ·by_cases hp0 : p0 = .number
    ·subst hp0
     rw [e1] at h0
     have h7 : hw' % 16 = sl x + 1 := h0.2.2
     have h8 : hw' % 16 - 1 = sl x := by omega
     have h9 := (h.hw t _ hw' ht e1 rfl).2
     rw [← hM', e1]
     show upd s.M (cas s.M (.number (hw' % 16 - 1)) 0 (hw' / 16)).1 (cas s.M (.number (hw' % 16 - 1)) 0 (hw' / 16)).2 (.number (sl x)) ≠ 0
     rw [h8]
     by_cases e0 : s.M (.number (sl x)) = 0
     ·rw [cas_hit _ _ e0, upd_at]; omega
     ·rw [cas_miss _ _ e0]; exact e0
    ·exact hkeep t (sl x) ht ⟨_, e1, rfl, by intro x e; cases e⟩ (h.note t x w hw' p0 ht e1 hp0)
  ·simp only [setF_other _ _ htid] at hth
   exact hkeep t (sl x) ht ⟨_, hth, rfl, by intro x e; cases e⟩ (h.note t x w hw' p ht hth hp)
 ·show M' (.number (sl x)) ≠ 0
  by_cases htid : t = id
  ·subst htid
   simp only [setF_same] at hth
   obtain ⟨m0, e1, e2⟩ := hwk _ hth (by simp [slotOf])
   rcases to_cleave e2 with ⟨w, hw', rfl, h3⟩ | ⟨p0, rfl⟩
   ·refine hkeep t (sl x) ht ⟨_, e1, rfl, by intro x e; cases e⟩ (h.note t x w hw' _ ht e1 (by intro e; cases e))
   ·exact hkeep t (sl x) ht ⟨_, e1, rfl, by intro x e; cases e⟩ (h.leave t x p0 a ht e1)
  ·simp only [setF_other _ _ htid] at hth
   exact hkeep t (sl x) ht ⟨_, hth, rfl, by intro x e; cases e⟩ (h.leave t x p a ht hth)
 ·by_cases htid : t = id
  ·subst htid
   simp only [setF_same] at hth
   rw [← hst'] at hth
   cases hth2 : s.th t with
   | pinLoad m0 =>
    rw [hth2] at hth
    rcases hth with hth | ⟨e, hth⟩
    ·cases hth
    ·cases hth; exact h.pinD t m ht (.inl hth2)
   | pinLay e m0 => rw [hth2] at hth; simp only [tstep] at hth; rcases hth with hth | ⟨e, hth⟩ <;> (cases m0 <;> cases hth)
   | work m0 => rw [hth2] at hth; simp only [tstep] at hth; rcases hth with hth | ⟨e, hth⟩ <;> (cases hmm : (mstep c t s.M m0).2 <;> rw [hmm] at hth <;> cases hth)
   | idle a => rw [hth2] at hi; cases hi
   | leave kd a => rw [hth2] at hth; rcases hth with hth | ⟨e, hth⟩ <;> cases hth
  ·simp only [setF_other _ _ htid] at hth
   exact h.pinD t m ht hth
 ·show EndedAt M' ev'.h
  obtain ⟨ev, h1, ⟨h2, rfl⟩ | ⟨h2, rfl, h4, h5⟩⟩ := ev_from hst hid hi hj
  ·exact hend _ (h.ended j _ h1 he)
  ·rw [(ev_h _ _ _).1]
   cases hs' : isIdle st' with
   | false => have := he.1; rw [(ev_dn hs').1, h4] at this; cases this
   | true =>
    cases st' with
    | idle a =>
     obtain ⟨kd, e1⟩ := idle_step hi hst'
     have hop := (hst.run j ev h1 h4).2.2.1
     rw [h5, e1] at hop
     obtain ⟨q, hq, hqa⟩ := he.2
     rw [(ev_h _ _ _).2.1] at hq
     have hqk : kd = q := Kd.num_inj (by rw [← hq]; exact hop.symm)
     subst hqk
     exact hend _ (h.endT id kd a hid e1 hqa ev (by rw [← h2]; exact h1))
    | _ => cases hs'
 ·show EndedAt M' ev'.h
  obtain ⟨ev, h1, h2⟩ := ev_from hst hid hi hj
  have hh : ev'.h = ev.h := by
   rcases h2 with ⟨_, rfl⟩ | ⟨_, rfl, _⟩
   ·rfl
   ·exact (ev_h _ _ _).1
  rw [hh]
  by_cases htid : t = id
  ·subst htid
   simp only [setF_same] at hth
   have h4 : ev.dn = false ∧ ev.thr = t := by
    rcases h2 with ⟨h2, _⟩ | ⟨_, _, h3, h4⟩
    ·exact (h2 rfl).elim
    ·exact ⟨h3, h4⟩
   have hop := (hst.run _ ev h1 h4.1).2.2.1
   rw [h4.2] at hop
   rw [← hst'] at hth
   cases hth2 : s.th t with
   | idle a => rw [hth2] at hi; cases hi
   | pinLoad m0 => rw [hth2] at hth; cases hth
   | leave kd a => rw [hth2] at hth; cases hth
   | pinLay e m0 =>
    rw [hth2] at hth
    exfalso
    have hd : m0 = .done kd a := by cases m0 <;> first | (cases hth; rfl) | cases hth
    have := h.pinD t m0 ht (.inr ⟨e, hth2⟩) kd a hd
    cases kd <;> simp only [endA] at ha <;> omega
   | work m0 =>
    rw [hth2] at hth hop hm hw h0
    have hd : (mstep c t s.M m0).2 = .done kd a := by
     simp only [tstep] at hth
     cases hmm : (mstep c t s.M m0).2 <;> rw [hmm] at hth <;> first | (cases hth; rfl) | cases hth
    obtain ⟨x, hx1, hx2⟩ := mstep_ends m0 hw h0 (fun x p a' e => by rw [e] at hth2; exact h.leave t x p a' ht hth2) hd ha (fun kd a e => by rw [e] at hm; exact absurd hm.2 (by simp [Mach.isDone]))
    have hx := tkOf_op hx1 hop
    have hx3 : ev.h = x := by omega
    rw [hx3, ← hM', hth2]
    exact hx2
  ·simp only [setF_other _ _ htid] at hth
   exact hend _ (h.endT t kd a ht hth ha ev h1)
theorem num_start {c : Cfg} {s : Wd} (hst : Str c s) (h : NumI c s) (id : Nat) (hid : (id : Int) < c.T) (kd : Int) (x : Nat) (k : Int) : NumI c (wstart c s id kd x k).2 := by
 unfold wstart
 cases hs : s.th id with
 | idle a =>
  by_cases hk : 1 ≤ kd ∧ kd ≤ 6
  ·have e : tstart c kd x k (.idle a) = (true, .pinLoad (begins c kd x k)) := tstart_yes _ _ _ _ _ hk.1 hk.2
   rw [e]
   have hw : ∀ (u : Nat) (m : Mach), setF s.th id (TSt.pinLoad (begins c kd x k)) u = .work m → s.th u = .work m := by
    intro u m h1
    simp only [setF] at h1
    split at h1
    ·cases h1
    ·exact h1
   refine ⟨h.n0, h.n1, fun t m w ht hth => h.hw t m w ht (hw _ _ hth), fun t y w hw' p ht hth => h.note t y w hw' p ht (hw _ _ hth), fun t y p a ht hth => h.leave t y p a ht (hw _ _ hth), fun t m ht hth => ?_, fun j ev hj he => ?_, fun t kd' a' ht hth ha ev hj => ?_⟩
   ·simp only [setF] at hth
    split at hth
    ·rcases hth with hth | ⟨e, hth⟩
     ·cases hth
      intro kd' a' e
      exact begins_done e
     ·cases hth
    ·exact h.pinD t m ht hth
   ·rw [List.getElem?_append] at hj
    split at hj
    ·exact h.ended j ev hj he
    ·have : ev.dn = false := by
      cases hjj : j - s.evs.length with
      | zero => rw [hjj] at hj; simp at hj; rw [← hj]
      | succ n => rw [hjj] at hj; simp at hj
     have h2 := he.1
     rw [this] at h2; cases h2
   ·simp only [setF] at hth hj
    split at hth
    ·cases hth
    ·rename_i htid
     rw [if_neg htid] at hj
     obtain ⟨ev2, h1, _⟩ := hst.at_ t ht (by rw [hth]; rfl)
     rw [List.getElem?_append_left (by exact (List.getElem?_eq_some_iff.1 h1).1)] at hj
     exact h.endT t kd' a' ht hth ha ev hj
  ·have e : tstart c kd x k (.idle a) = (false, .idle a) := if_neg hk
   rw [e]
   exact h
 | _ => exact h
theorem reach_num {c : Cfg} {s : Wd} (hr : c.right) (h : Reach c s) : NumI c s := by
 induction h with
 | init =>
  refine ⟨fun h => ?_, fun i => Nat.le_refl _, ?_, ?_, ?_, ?_, ?_, ?_⟩
  ·exact absurd h (by decide)
  ·intro t m w _ h; cases h
  ·intro t x w hw p _ h; cases h
  ·intro t x p a _ h; cases h
  ·intro t m _ h; rcases h with h | ⟨e, h⟩ <;> cases h
  ·intro j ev h; simp [w0] at h
  ·intro t kd a _ h; cases h
 | start id kd x k hid hh hs ih => exact num_start (reach_str hr hs) ih id hid kd x k
 | @step s id hid hs ih => exact num_step hr (reach_str hr hs) (reach_own hr hs) ih id hid
def cur (M : Mm) (i : Nat) : Nat := 16 * sG M i + i + 1
def goodM : Mach → Prop
 | .rJoin .. => True
 | .rOwn .. => True
 | .rLeave _ _ _ _ e => e = 0 ∨ e = 7
 | .wJoin .. => True
 | .wOwn .. => True
 | .wLeave _ _ _ _ e => e = 0 ∨ e = 7
 | _ => False
def goodT : TSt → Prop
 | .work m => goodM m
 | .leave _ a => a.e = 0 ∨ a.e = 7
 | _ => False
def Gd (s : Wd) (m : Nat) (kd : Int) (h κ : Nat) : Prop :=
 ∃ (j : Nat) (ev : Ev), s.evs[j]? = some ev ∧ ev.kd = kd ∧ ev.h = h ∧ ev.k = (κ : Int) ∧ ev.bg ≠ 0 ∧ ev.bg ≤ m ∧ (ev.dn = true → ev.a.e = 0 ∨ ev.a.e = 7) ∧ (ev.dn = false → goodT (s.th ev.thr))
def Mt (s : Wd) (B : Nat → Nat) (a b : Nat) : Prop :=
 ∀ (j : Nat) (ev : Ev), s.evs[j]? = some ev → endEv ev → (ev.h = a → B b ≤ ev.en) ∧ (ev.h = b → B a ≤ ev.en)
def Cf (s : Wd) (m : Nat) (B : Nat → Nat) (a b : Nat) : Prop :=
 a ≠ b ∧ Born s.M a ∧ Born s.M b ∧ Mt s B a b ∧ ∃ κ, Gd s m 2 a κ ∧ Gd s m 3 b κ
def FailT (s : Wd) (m : Nat) (B : Nat → Nat) (h : Nat) : Prop :=
 ∃ x p y, (x = h ∨ p = h ∨ y = h) ∧ Cf s m B x p ∧ Cf s m B p y
def ClashT (s : Wd) (m : Nat) (B : Nat → Nat) (h : Nat) (κ : Nat) : Prop :=
 ∃ a, a ≠ h ∧ Born s.M a ∧ Born s.M h ∧ Mt s B a h ∧ Gd s m 3 a κ
def Pr (s : Wd) (m : Nat) (B : Nat → Nat) (kd : Nat) (x : Nat) : Prop :=
 (kd = 0 ∧ ∃ b, Cf s m B x b) ∨ (kd = 1 ∧ ∃ a, Cf s m B a x)
structure Later (s : Wd) (B : Nat → Nat) (s' : Wd) (B' : Nat → Nat) : Prop where
 n : s.n ≤ s'.n
 born : ∀ a, Born s.M a → Born s'.M a ∧ B' a = B a
 bn : ∀ a, B a ≤ s.n
 ev : ∀ (j : Nat) (ev : Ev), s.evs[j]? = some ev → ∃ ev', s'.evs[j]? = some ev' ∧ ev'.kd = ev.kd ∧ ev'.h = ev.h ∧ ev'.k = ev.k ∧ ev'.thr = ev.thr ∧ (ev.bg ≠ 0 → ev'.bg = ev.bg) ∧ (ev.dn = true → ev' = ev) ∧
  (ev.dn = false → goodT (s.th ev.thr) → (ev'.dn = true → ev'.a.e = 0 ∨ ev'.a.e = 7) ∧ (ev'.dn = false → goodT (s'.th ev.thr)))
 en : ∀ (j : Nat) (ev' : Ev), s'.evs[j]? = some ev' → endEv ev' → s.evs[j]? = some ev' ∨ s.n ≤ ev'.en
section
variable {s s' : Wd} {B B' : Nat → Nat}
theorem Gd.mono {m m' : Nat} {kd : Int} {h κ : Nat} (g : Gd s m kd h κ) (hm : m ≤ m') : Gd s m' kd h κ := by
 obtain ⟨j, ev, a1, a2, a3, a4, a5, a6, a7⟩ := g
 exact ⟨j, ev, a1, a2, a3, a4, a5, by omega, a7⟩
theorem Cf.mono {m m' : Nat} {a b : Nat} (g : Cf s m B a b) (hm : m ≤ m') : Cf s m' B a b := by
 obtain ⟨h1, h2, h3, h4, κ, h5, h6⟩ := g
 exact ⟨h1, h2, h3, h4, κ, h5.mono hm, h6.mono hm⟩
theorem FailT.mono {m m' : Nat} {h : Nat} (g : FailT s m B h) (hm : m ≤ m') : FailT s m' B h := by
 obtain ⟨x, p, y, h1, h2, h3⟩ := g
 exact ⟨x, p, y, h1, h2.mono hm, h3.mono hm⟩
theorem ClashT.mono {m m' : Nat} {h κ : Nat} (g : ClashT s m B h κ) (hm : m ≤ m') : ClashT s m' B h κ := by
 obtain ⟨a, h1, h2, h3, h4, h5⟩ := g
 exact ⟨a, h1, h2, h3, h4, h5.mono hm⟩
theorem Pr.mono {m m' : Nat} {kd h : Nat} (g : Pr s m B kd h) (hm : m ≤ m') : Pr s m' B kd h := by
 rcases g with ⟨h1, b, h2⟩ | ⟨h1, b, h2⟩
 ·exact .inl ⟨h1, b, h2.mono hm⟩
 ·exact .inr ⟨h1, b, h2.mono hm⟩
theorem Gd.later (L : Later s B s' B') {m : Nat} {kd : Int} {h κ : Nat} (g : Gd s m kd h κ) : Gd s' m kd h κ := by
 obtain ⟨j, ev, a1, a2, a3, a4, a5, a6, a7, a8⟩ := g
 obtain ⟨ev', b1, b2, b3, b4, b5, b6, b7, b8⟩ := L.ev j ev a1
 refine ⟨j, ev', b1, b2.trans a2, b3.trans a3, b4.trans a4, by rw [b6 a5]; exact a5, by rw [b6 a5]; exact a6, fun hd => ?_, fun hd => ?_⟩
 ·cases hdn : ev.dn with
  | true => rw [b7 hdn]; exact a7 hdn
  | false => exact (b8 hdn (a8 hdn)).1 hd
 ·cases hdn : ev.dn with
  | true => rw [b7 hdn, hdn] at hd; cases hd
  | false => rw [b5]; exact (b8 hdn (a8 hdn)).2 hd
theorem Mt.later (L : Later s B s' B') {a b : Nat} (ha : Born s.M a) (hb : Born s.M b) (g : Mt s B a b) : Mt s' B' a b := by
 intro j ev h1 h2
 rw [(L.born a ha).2, (L.born b hb).2]
 rcases L.en j ev h1 h2 with h3 | h3
 ·exact g j ev h3 h2
 ·have := L.bn a; have := L.bn b; constructor <;> intro _ <;> omega
theorem Mt.symm {a b : Nat} (g : Mt s B a b) : Mt s B b a := fun j ev h1 h2 => ⟨(g j ev h1 h2).2, (g j ev h1 h2).1⟩
theorem Cf.later (L : Later s B s' B') {m a b : Nat} (g : Cf s m B a b) : Cf s' m B' a b := by
 obtain ⟨h1, h2, h3, h4, κ, h5, h6⟩ := g
 exact ⟨h1, (L.born a h2).1, (L.born b h3).1, h4.later L h2 h3, κ, h5.later L, h6.later L⟩
theorem FailT.later (L : Later s B s' B') {m h : Nat} (g : FailT s m B h) : FailT s' m B' h := by
 obtain ⟨x, p, y, h1, h2, h3⟩ := g
 exact ⟨x, p, y, h1, h2.later L, h3.later L⟩
theorem ClashT.later (L : Later s B s' B') {m h κ : Nat} (g : ClashT s m B h κ) : ClashT s' m B' h κ := by
 obtain ⟨a, h1, h2, h3, h4, h5⟩ := g
 exact ⟨a, h1, (L.born a h2).1, (L.born h h3).1, h4.later L h2 h3, h5.later L⟩
theorem Pr.later (L : Later s B s' B') {m kd h : Nat} (g : Pr s m B kd h) : Pr s' m B' kd h := by
 rcases g with ⟨h1, b, h2⟩ | ⟨h1, b, h2⟩
 ·exact .inl ⟨h1, b, h2.later L⟩
 ·exact .inr ⟨h1, b, h2.later L⟩
end
def n4q (s : Wd) (B : Nat → Nat) (b q : Nat) : Prop :=
 ∀ j : Nat, j < 12 → sS s.M j = 4 → q < s.M (.number j) → ∀ (i : Nat) (ev : Ev), s.evs[i]? = some ev → endEv ev → ev.h = cur s.M j → B b ≤ ev.en
def numF (s : Wd) (B : Nat → Nat) (h n j : Nat) : Prop := Mt s B h (cur s.M j) ∨ (s.M (.number j) ≠ 0 ∧ s.M (.number j) ≤ n)
def jF (s : Wd) (B : Nat → Nat) (h n j : Nat) (kd : Nat) : JP → Prop
 | .look => True
 | .number w => (St.anyW w ((kd : Nat) : Int) = true → Pr s s.n B kd (cur s.M j)) ∧ numF s B h n j
 | .lay w => stOf w = 4 → Mt s B h (cur s.M j)
def oF (s : Wd) (kd : Int) (h k x : Nat) : Prop := x ≠ sl h ∧ Born s.M (cur s.M x) ∧ Gd s s.n kd (cur s.M x) k
def opnF (c : Cfg) (s : Wd) (B : Nat → Nat) (t i w : Nat) : Prop :=
 (∀ kd : Nat, kd ≤ 1 → St.anyW w (kd : Int) = false) ∧ (gnOf w : Int) ≤ c.L ∧ ∀ ev : Ev, s.evs[s.at_ t]? = some ev → ev.bg ≤ B (16 * gnOf w + i + 1)
def lawM (c : Cfg) (s : Wd) (B : Nat → Nat) (t : Nat) : Mach → Prop
 | .oTake i w => (gnOf w : Int) ≤ c.L
 | .oTally i w => opnF c s B t i w
 | .oHelp i w _ _ => opnF c s B t i w
 | .oNote i w q => opnF c s B t i w ∧ n4q s B (16 * gnOf w + i + 1) q
 | .oStart i w q => opnF c s B t i w ∧ n4q s B (16 * gnOf w + i + 1) q ∧ s.M (.snapshot i) = q
 | .rLook h k n => n = s.M (.snapshot (sl h))
 | .rMark h k n w => n = s.M (.snapshot (sl h))
 | .rJoin h k n j r p => n = s.M (.snapshot (sl h)) ∧ (∀ x, x ∈ j :: r → oF s 3 h k x) ∧ jF s B h n j 0 p
 | .rOwn h k n j r p => n = s.M (.snapshot (sl h)) ∧ (∀ x, x ∈ r → oF s 3 h k x) ∧ Pr s s.n B 0 h
 | .rLeave h k ab p e => e = 7 → FailT s s.n B h
 | .wLook h k n => n = s.M (.snapshot (sl h))
 | .wRival h k n w j r => n = s.M (.snapshot (sl h)) ∧ (∀ x, x ∈ j :: r → oF s 3 h k x) ∧ (Ma.hasW w 1 (sl h : Int) = true → ∀ x, x ∈ otherN w 0 (sl h) → oF s 2 h k x)
 | .wNumber h k n w j r => n = s.M (.snapshot (sl h)) ∧ (∀ x, x ∈ j :: r → oF s 3 h k x) ∧ (Ma.hasW w 1 (sl h : Int) = true → ∀ x, x ∈ otherN w 0 (sl h) → oF s 2 h k x) ∧ numF s B h n j
 | .wMark h k n w => n = s.M (.snapshot (sl h))
 | .wJoin h k n j r p => n = s.M (.snapshot (sl h)) ∧ (∀ x, x ∈ j :: r → oF s 2 h k x) ∧ jF s B h n j 1 p
 | .wOwn h k n j r p => n = s.M (.snapshot (sl h)) ∧ (∀ x, x ∈ r → oF s 2 h k x) ∧ Pr s s.n B 1 h
 | .wLeave h k ab p e => (e = 7 → FailT s s.n B h) ∧ (e = 8 → ClashT s s.n B h k)
 | .cDoom h _ => Pr s s.n B 0 h ∧ Pr s s.n B 1 h
 | _ => True
def lvF (s : Wd) (B : Nat → Nat) (t : Nat) (kd : Kd) (a : Ans) : Prop :=
 ∀ ev : Ev, s.evs[s.at_ t]? = some ev → (a.e = 7 → FailT s s.n B ev.h) ∧ (a.e = 8 → ∃ κ : Nat, ev.k = (κ : Int) ∧ ClashT s s.n B ev.h κ) ∧ (kd = .o → a.e = 0 → ev.bg ≤ B a.h)
def lawT (c : Cfg) (s : Wd) (B : Nat → Nat) (t : Nat) : TSt → Prop
 | .work m => lawM c s B t m
 | .leave kd a => lvF s B t kd a
 | .pinLoad m => ∀ i w, m ≠ .oTake i w
 | .pinLay _ m => ∀ i w, m ≠ .oTake i w
 | _ => True
structure LawI (c : Cfg) (s : Wd) (B : Nat → Nat) : Prop where
 bn : ∀ a, B a ≤ s.n
 bg : ∀ (j : Nat) (ev : Ev), s.evs[j]? = some ev → ev.dn = true → ev.kd = 1 → ev.a.e = 0 → ev.bg ≤ B ev.a.h
 n4 : ∀ i : Nat, i < 12 → sS s.M i = 2 → n4q s B (cur s.M i) (s.M (.snapshot i))
 any : ∀ i kd : Nat, (i : Int) < c.S → kd ≤ 1 → St.anyW (s.M (.status i)) (kd : Int) = true → Pr s s.n B kd (cur s.M i)
 mrk : ∀ κ kd i : Nat, (κ : Int) < c.K → kd ≤ 1 → mk s.M κ kd i → Gd s s.n (2 + (kd : Int)) (cur s.M i) κ
 th : ∀ t : Nat, (t : Int) < c.T → lawT c s B t (s.th t)
 fin : ∀ (j : Nat) (ev : Ev), s.evs[j]? = some ev → ev.dn = true → (ev.a.e = 7 → FailT s ev.en B ev.h) ∧ (ev.a.e = 8 → ∃ κ : Nat, ev.k = (κ : Int) ∧ ClashT s ev.en B ev.h κ)
def LaysB (M : Mm) (m : Mach) (i kd : Nat) : Prop :=
 (∃ h k n r s, m = .rJoin h k n i r (.lay s) ∧ M (.status i) = s ∧ kd = 1) ∨
 (∃ h k n r s, m = .wJoin h k n i r (.lay s) ∧ M (.status i) = s ∧ kd = 0) ∨
 (∃ h k n j r s, m = .rOwn h k n j r (.swap s) ∧ sl h = i ∧ M (.status i) = s ∧ kd = 0) ∨
 (∃ h k n j r s, m = .wOwn h k n j r (.swap s) ∧ sl h = i ∧ M (.status i) = s ∧ kd = 1) ∨
 (∃ s q, m = .oStart i s q ∧ St.anyW s (kd : Int) = true)
def WordTo (M M' : Mm) (m : Mach) (i : Nat) : Prop :=
 (∀ kd : Nat, kd ≤ 1 → St.anyW (M' (.status i)) (kd : Int) = true → St.anyW (M (.status i)) (kd : Int) = true ∨ LaysB M m i kd) ∧
 (sS M' i = 4 → sS M i = 4 ∨ sS M i = 3) ∧ (sS M' i = 2 → sS M i = 2 ∨ ∃ s q, m = .oStart i s q)
section
variable {c : Cfg} {M : Mm} {id : Nat}
theorem WordTo.of_eq {M' : Mm} {m : Mach} {i : Nat} (e : M' (.status i) = M (.status i)) : WordTo M M' m i := by
 refine ⟨fun kd _ h => .inl (by rw [← e]; exact h), fun h => .inl ?_, fun h => .inl ?_⟩ <;> (simp only [sS] at h ⊢; rw [← e]; exact h)
theorem WordTo.far {m : Mach} {i : Nat} {s : Spot} {v : Nat} (h : s ≠ .status i) : WordTo M (upd M s v) m i := .of_eq (upd_ne M v (Ne.symm h))
theorem WordTo.ld {m : Mach} {i : Nat} {s : Spot} : WordTo M (upd M (ld M s).1 (ld M s).2) m i := .of_eq (by rw [upd_ld])
theorem WordTo.mv {m : Mach} {i j s x : Nat} {b : Bool} (hx : x < 8) (h4 : x = 4 → stOf s = 4 ∨ stOf s = 3) (h2 : x = 2 → stOf s = 2) : WordTo M (upd M (cas M (.status j) s (St.moveN s x b)).1 (cas M (.status j) s (St.moveN s x b)).2) m i := by
 by_cases e : M (.status j) = s
 ·rw [cas_hit _ _ e]
  by_cases e2 : j = i
  ·subst e2
   refine ⟨fun kd hk h => .inl ?_, fun h => ?_, fun h => .inl ?_⟩
   ·rw [upd_at, any_move _ _ _ _ hk hx] at h; rw [e]; exact h
   ·simp only [sS, upd_at] at h ⊢; rw [st_move _ _ _ hx] at h; rw [e]; exact h4 h
   ·simp only [sS, upd_at] at h ⊢; rw [st_move _ _ _ hx] at h; rw [e]; exact h2 h
  ·exact .far (by intro e3; cases e3; exact e2 rfl)
 ·rw [cas_miss _ _ e]; exact .of_eq rfl
theorem WordTo.wt {m : Mach} {i j s b k : Nat} (hk : k ≤ 1) (hb : b < 12) (hl : j = i → M (.status j) = s → LaysB M m i k) : WordTo M (upd M (cas M (.status j) s (St.withW s (k : Int) (b : Int))).1 (cas M (.status j) s (St.withW s (k : Int) (b : Int))).2) m i := by
 by_cases e : M (.status j) = s
 ·rw [cas_hit _ _ e]
  by_cases e2 : j = i
  ·have hl := hl e2 e
   subst e2
   have hh := high_with s k b hk hb
   refine ⟨fun kd hkd h => ?_, fun h => .inl ?_, fun h => .inl ?_⟩
   ·rw [upd_at] at h
    rcases any_with _ _ _ _ hk hb hkd h with h1 | h1
    ·left; rw [e]; exact h1
    ·right; rw [h1]; exact hl
   ·simp only [sS, upd_at] at h ⊢; rw [e, ← hh.1]; exact h
   ·simp only [sS, upd_at] at h ⊢; rw [e, ← hh.1]; exact h
  ·exact .far (by intro e3; cases e3; exact e2 rfl)
 ·rw [cas_miss _ _ e]; exact .of_eq rfl
theorem WordTo.drop {m : Mach} {i j s b : Nat} {g : Bool} (hb : b < 12) : WordTo M (upd M (cas M (.status j) s (St.dropW s (b : Int) g)).1 (cas M (.status j) s (St.dropW s (b : Int) g)).2) m i := by
 by_cases e : M (.status j) = s
 ·rw [cas_hit _ _ e]
  by_cases e2 : j = i
  ·subst e2
   have hh := high_drop s b g hb
   refine ⟨fun kd hkd h => ?_, fun h => .inl ?_, fun h => .inl ?_⟩
   ·rw [upd_at] at h
    left; rw [e]; exact any_drop _ _ _ _ hb hkd h
   ·simp only [sS, upd_at] at h ⊢; rw [e, ← hh.1]; exact h
   ·simp only [sS, upd_at] at h ⊢; rw [e, ← hh.1]; exact h
  ·exact .far (by intro e3; cases e3; exact e2 rfl)
 ·rw [cas_miss _ _ e]; exact .of_eq rfl
theorem WordTo.estep {m : Mach} {i h : Nat} {ok : Nat → Bool} {p : EP} : WordTo M (upd M (estep M h ok p).1.1 (estep M h ok p).1.2) m i := by
 cases p with
 | look => exact .ld
 | swap s => exact .mv (stOf_lt s) (fun e => .inl e) (fun e => e)
theorem WordTo.lstep {m : Mach} {i j : Nat} {ab : Bool} {p : EP} : WordTo M (upd M (lstep M j ab p).1.1 (lstep M j ab p).1.2) m i := by
 cases p with
 | look => exact .ld
 | swap s =>
  cases ab
  ·exact .mv (x := stOf s) (stOf_lt s) (fun e => .inl e) (fun e => e)
  ·exact .mv (x := 5) (by omega) (fun e => by omega) (fun e => by omega)
theorem WordTo.hstep {m : Mach} {i w : Nat} {p : HP} (hp : hWd p) : WordTo M (upd M (hstep M w p).1.1 (hstep M w p).1.2) m i := by
 cases p with
 | number => exact .far (by intro e; cases e)
 | look => exact .ld
 | lay s => exact .mv (x := 4) (by omega) (fun e => .inr hp) (fun e => by omega)
 | settle => exact .far (by intro e; cases e)
set_option maxHeartbeats 2000000 in
theorem step_word (hr : c.right) (m : Mach) (hm : mOK c id m) (hw : wdOK m) (i : Nat) : WordTo M (upd M (mstep c id M m).1.1 (mstep c id M m).1.2) m i := by
 have t12 : ∀ {h : Nat}, tk c h → sl h < 12 := fun k => by have := tk_of k; omega
 cases m
 case oTake j s => exact .mv (by omega) (fun e => by omega) (fun e => by omega)
 case oStart j s q =>
  simp only [mstep]
  by_cases e2 : j = i
  ·subst e2
   refine ⟨fun kd hk h => .inr (.inr (.inr (.inr (.inr ⟨s, q, rfl, ?_⟩)))), fun h => ?_, fun h => .inr ⟨s, q, rfl⟩⟩
   ·rw [upd_at, any_move _ _ _ _ hk (by omega)] at h; exact h
   ·simp only [sS, upd_at] at h; rw [st_move _ _ _ (by omega)] at h; omega
  ·exact .far (by intro e3; cases e3; exact e2 rfl)
 case oHelp j s w p => exact .hstep hw.2
 case cHelp h w p => exact .hstep hw
 case cNote h w hw' p => exact .hstep hw
 case rEnter => exact .estep
 case wEnter => exact .estep
 case cEnter => exact .estep
 case aEnter => exact .estep
 case sEnter => exact .estep
 case rLeave => exact .lstep
 case wLeave => exact .lstep
 case cLeave => exact .lstep
 case aLeave => exact .lstep
 case sLater => exact .lstep
 case rJoin h k n j r p =>
  cases p with
  | look => exact .ld
  | number s => exact .ld
  | lay s => exact .wt (k := 1) (by omega) (t12 hm.1) (fun e1 e2 => .inl (by subst e1; exact ⟨h, k, n, r, s, rfl, e2, rfl⟩))
 case wJoin h k n j r p =>
  cases p with
  | look => exact .ld
  | number s => exact .ld
  | lay s => exact .wt (k := 0) (by omega) (t12 hm.1) (fun e1 e2 => .inr (.inl (by subst e1; exact ⟨h, k, n, r, s, rfl, e2, rfl⟩)))
 case rOwn h k n j r p =>
  have hj : j < 12 := by obtain ⟨a1, a2, a3, a4, _⟩ := hr; have := hm.2.2.2.1 j (List.mem_cons_self ..); omega
  cases p with
  | look => exact .ld
  | swap s => exact .wt (k := 0) (by omega) hj (fun e1 e2 => .inr (.inr (.inl (by subst e1; exact ⟨h, k, n, j, r, s, rfl, rfl, e2, rfl⟩))))
 case wOwn h k n j r p =>
  have hj : j < 12 := by obtain ⟨a1, a2, a3, a4, _⟩ := hr; have := hm.2.2.2.1 j (List.mem_cons_self ..); omega
  cases p with
  | look => exact .ld
  | swap s => exact .wt (k := 1) (by omega) hj (fun e1 e2 => .inr (.inr (.inr (.inl (by subst e1; exact ⟨h, k, n, j, r, s, rfl, rfl, e2, rfl⟩)))))
 case cDoom h s => exact .mv (x := 5) (by omega) (fun e => by omega) (fun e => by omega)
 case cPromise h s => exact .mv (x := 3) (by omega) (fun e => by omega) (fun e => by omega)
 case sDead h w => exact .mv (x := 6) (by omega) (fun e => by omega) (fun e => by omega)
 case sPart h j n w => exact .drop (t12 hm.1)
 case sClosed h w => exact .mv (x := 7) (by omega) (fun e => by omega) (fun e => by omega)
 case sFree h =>
  simp only [mstep]
  have k := tk_of (c := c) (h := h) hm
  have hg := gn_word (h / 16 + 1) (by omega)
  by_cases e2 : sl h = i
  ·subst e2
   refine ⟨fun kd hk h1 => ?_, fun h1 => ?_, fun h1 => ?_⟩
   ·rw [upd_at, hg.2.2.2 kd hk] at h1; cases h1
   ·simp only [sS, upd_at, hg.1] at h1; omega
   ·simp only [sS, upd_at, hg.1] at h1; omega
  ·exact .far (by intro e3; cases e3; exact e2 rfl)
 case sAged h j num sn => cases sn <;> exact .ld
 all_goals
  first
  | exact .ld
  | (refine .far ?_; intro e; cases e; done)
theorem step_snap (m : Mach) (i : Nat) : upd M (mstep c id M m).1.1 (mstep c id M m).1.2 (.snapshot i) = M (.snapshot i) ∨ ∃ s q, m = .oNote i s q ∧ upd M (mstep c id M m).1.1 (mstep c id M m).1.2 (.snapshot i) = q := by
 cases m
 case oNote j s q =>
  by_cases e : j = i
  ·subst e; exact .inr ⟨s, q, rfl, upd_at _ _ _⟩
  ·exact .inl (upd_ne _ _ (by intro e2; cases e2; exact e rfl))
 case sAged h j num sn => cases sn <;> (left; simp only [mstep, upd_ld])
 all_goals
  left
  first
  | (simp only [mstep, upd_ld]; done)
  | exact upd_ne _ _ (by intro e; cases e)
  | (rename_i p; cases p <;> first | (simp only [mstep, estep, lstep, hstep, jstep, ostep, upd_ld]; done) | exact upd_ne _ _ (by intro e; cases e))
  | (rename_i p _; cases p <;> first | (simp only [mstep, estep, lstep, hstep, jstep, ostep, upd_ld]; done) | exact upd_ne _ _ (by intro e; cases e))
end
def bStep (s : Wd) (id : Nat) (B : Nat → Nat) : Nat → Nat := fun a =>
 match s.th id with
 | .work (.oTake i w) => if s.M (.status i) = w then setF B (cur s.M i) (s.n + 1) a else B a
 | _ => B a
theorem bStep_ne {s : Wd} {id a : Nat} {B : Nat → Nat} (h : ∀ i w, s.th id = .work (.oTake i w) → s.M (.status i) = w → a ≠ cur s.M i) : bStep s id B a = B a := by
 unfold bStep
 split
 ·rename_i i w e
  split
  ·rename_i e2; exact setF_other _ _ (h i w e e2)
  ·rfl
 ·rfl
theorem bStep_at {s : Wd} {id i w : Nat} {B : Nat → Nat} (e : s.th id = .work (.oTake i w)) (e2 : s.M (.status i) = w) : bStep s id B (cur s.M i) = s.n + 1 := by
 unfold bStep
 rw [e]
 simp only
 rw [if_pos e2, setF_same]
theorem bStep_le {s : Wd} {id : Nat} {B : Nat → Nat} (h : ∀ a, B a ≤ s.n) (a : Nat) : bStep s id B a ≤ s.n + 1 ∧ B a ≤ bStep s id B a := by
 unfold bStep
 split
 ·rename_i i w e
  split
  ·simp only [setF]
   have := h a
   split <;> omega
  ·have := h a; omega
 ·have := h a; omega
theorem sl_cur {M : Mm} {i : Nat} (h : i < 12) : sl (cur M i) = i ∧ cur M i / 16 = sG M i := by
 unfold sl cur; omega
theorem cur_own {M : Mm} {h : Nat} (h1 : 1 ≤ h % 16) (e : sG M (sl h) = h / 16) : cur M (sl h) = h := by
 unfold cur; rw [e]; unfold sl; omega
theorem born_cur {M : Mm} {i : Nat} (h : i < 12) : Born M (cur M i) ↔ 2 ≤ sS M i := by
 unfold Born; rw [(sl_cur h).1, (sl_cur h).2]; omega
theorem ended_cur {M : Mm} {i : Nat} (h : i < 12) : EndedAt M (cur M i) ↔ 4 ≤ sS M i ∧ (sS M i = 4 → M (.number i) ≠ 0) := by
 unfold EndedAt; rw [(sl_cur h).1, (sl_cur h).2]
 constructor
 ·rintro (h | ⟨_, h1, h2⟩)
  ·omega
  ·exact ⟨h1, h2⟩
 ·rintro ⟨h1, h2⟩; exact .inr ⟨rfl, h1, h2⟩
section
variable {c : Cfg} {M : Mm} {id : Nat}
theorem rNext_good {h k n : Nat} (r : List Nat) : goodT (goesOn (rNext h k n r)) := by
 cases r
 ·exact .inl rfl
 ·trivial
theorem wNext_good {h k n : Nat} (r : List Nat) : goodT (goesOn (wNext h k n r)) := by
 cases r
 ·exact .inl rfl
 ·trivial
theorem mstep_good {m : Mach} (hw : wdOK m) (h : goodM m) : goodT (goesOn (mstep c id M m).2) := by
 cases m
 case rJoin x k n j r p =>
  simp only [mstep]
  split
  ·trivial
  ·exact rNext_good _
  ·trivial
  ·exact .inr rfl
 case rOwn x k n j r p =>
  simp only [mstep]
  split
  ·trivial
  ·exact rNext_good _
 case rLeave x k ab p e =>
  simp only [mstep]
  split
  ·exact h
  ·exact h
 case wJoin x k n j r p =>
  simp only [mstep]
  split
  ·trivial
  ·exact wNext_good _
  ·trivial
  ·exact .inr rfl
 case wOwn x k n j r p =>
  simp only [mstep]
  split
  ·trivial
  ·exact wNext_good _
 case wLeave x k ab p e =>
  simp only [mstep]
  split
  ·exact h
  ·exact h
 all_goals exact h.elim
theorem tstep_good {st : TSt} (hw : tWd st) (h : goodT st) : (∀ a, (tstep c id M st).2 = .idle a → a.e = 0 ∨ a.e = 7) ∧ (isIdle (tstep c id M st).2 = false → goodT (tstep c id M st).2) := by
 cases st with
 | idle a => exact h.elim
 | pinLoad m => exact h.elim
 | pinLay e m => exact h.elim
 | work m =>
  have hg := mstep_good (c := c) (M := M) (id := id) hw h
  refine ⟨fun a e => ?_, fun _ => hg⟩
  simp only [tstep] at e
  rw [e] at hg
  exact hg.elim
 | leave kd a =>
  refine ⟨fun a' e => ?_, fun e => by cases e⟩
  cases e; exact h
end
section
variable {c : Cfg} {s : Wd} {B : Nat → Nat}
theorem evs_step {id : Nat} (hi : isIdle (s.th id) = false) : (wstep c s id).2 = ⟨upd s.M (tstep c id s.M (s.th id)).1.1 (tstep c id s.M (s.th id)).1.2, s.n + 1, setF s.th id (tstep c id s.M (s.th id)).2, s.at_, s.evs.modify (s.at_ id) (evStep (s.n + 1) (tstep c id s.M (s.th id)).2)⟩ := by
 unfold wstep
 rw [if_neg (by rw [hi]; decide)]
theorem taken_slot {id i w : Nat} (hst : Str c s) (hid : (id : Int) < c.T) (e : s.th id = .work (.oTake i w)) (e2 : s.M (.status i) = w) : sS s.M i = 0 ∧ (i : Int) < c.S := by
 have hw := hst.wd id hid
 have hm := hst.tok id hid
 rw [e] at hw hm
 refine ⟨?_, hm.1.1⟩
 simp only [sS, e2]; exact hw
theorem later_step (hr : c.right) (hst : Str c s) (ho : OwnI c s) (hb : ∀ a, B a ≤ s.n) {id : Nat} (hid : (id : Int) < c.T) (hi : isIdle (s.th id) = false) : Later s B (wstep c s id).2 (bStep s id B) := by
 have hs12 : ∀ {i : Nat}, (i : Int) < c.S → i < 12 := by
  obtain ⟨a1, a2, a3, a4, _⟩ := hr
  intro i h; omega
 have hw := hst.wd id hid
 rw [evs_step hi]
 refine ⟨Nat.le_succ _, fun a ha => ⟨born_step hr _ (hst.tok id hid) hw (ho.own id hid) ha, bStep_ne fun i w e e2 h => ?_⟩, hb, fun j ev hj => ?_, fun j ev' hj he => ?_⟩
 ·obtain ⟨h0, h1⟩ := taken_slot hst hid e e2
  rw [h, born_cur (hs12 h1)] at ha
  omega
 ·simp only [modify_at]
  by_cases e : s.at_ id = j
  ·rw [if_pos e, hj]
   refine ⟨_, rfl, (ev_h _ _ _).2.1, (ev_h _ _ _).1, (ev_h _ _ _).2.2.1, (ev_h _ _ _).2.2.2, fun hbg => ?_, fun hd => ?_, fun hd hg => ?_⟩
   ·unfold evStep
    split <;> simp only [if_neg hbg]
   ·obtain ⟨ev2, h1, h2, _⟩ := hst.at_ id hid hi
    rw [e, hj] at h1; cases h1
    rw [h2] at hd; cases hd
   ·obtain ⟨ev2, h1, h2, h3⟩ := hst.at_ id hid hi
    rw [e, hj] at h1; cases h1
    rw [h3] at hg ⊢
    rw [setF_same]
    have hgs := tstep_good (c := c) (M := s.M) (id := id) hw hg
    generalize hst' : (tstep c id s.M (s.th id)).2 = st' at hgs ⊢
    cases st' with
    | idle a => exact ⟨fun _ => hgs.1 a rfl, fun h => by cases h⟩
    | _ => exact ⟨fun h => (by rw [(ev_dn rfl).1, hd] at h; cases h), fun _ => hgs.2 rfl⟩
  ·rw [if_neg e]
   refine ⟨ev, hj, rfl, rfl, rfl, rfl, fun _ => rfl, fun _ => rfl, fun hd hg => ⟨fun h => (by rw [hd] at h; cases h), fun _ => ?_⟩⟩
   have hr' := hst.run j ev hj hd
   by_cases et : ev.thr = id
   ·exact (e (by rw [← et]; exact hr'.1)).elim
   ·simp only [setF_other _ _ et]; exact hg
 ·obtain ⟨ev, h1, ⟨_, rfl⟩ | ⟨_, rfl, h4, _⟩⟩ := ev_from hst hid hi hj
  ·exact .inl h1
  ·right
   cases hs' : isIdle (tstep c id s.M (s.th id)).2 with
   | false => have := he.1; rw [(ev_dn hs').1, h4] at this; cases this
   | true =>
    generalize hst' : (tstep c id s.M (s.th id)).2 = st' at hs'
    cases st' with
    | idle a => exact Nat.le_succ _
    | _ => cases hs'
theorem n4q_later {s' : Wd} {B' : Nat → Nat} (L : Later s B s' B') (hnum : NumI c s) (h4 : ∀ j, sS s'.M j = 4 → sG s'.M j = sG s.M j ∧ (sS s.M j = 4 ∨ sS s.M j = 3)) (hn : ∀ j, s'.M (.number j) = s.M (.number j) ∨ s.M (.number j) = 0 ∨ s'.M (.number j) = 0) {b q : Nat} (hb : B' b = B b) (h : n4q s B b q) : n4q s' B' b q := by
 intro j hj e4 hq i ev h1 h2 h3
 rw [hb]
 have hbn := L.bn b
 rcases L.en i ev h1 h2 with h5 | h5
 ·obtain ⟨g1, g2⟩ := h4 j e4
  have hc : cur s'.M j = cur s.M j := by unfold cur; rw [g1]
  rw [hc] at h3
  have hE := hnum.ended i ev h5 h2
  rw [h3, ended_cur hj] at hE
  have s4 : sS s.M j = 4 := by rcases g2 with g2 | g2 <;> omega
  have hn0 := hE.2 s4
  refine h j hj s4 ?_ i ev h5 h2 h3
  rcases hn j with e | e | e
  ·rw [← e]; exact hq
  ·exact (hn0 e).elim
  ·rw [e] at hq; omega
 ·omega
end
section
variable {c : Cfg} {s s' : Wd} {B B' : Nat → Nat}
theorem cur_keep {M M' : Mm} {x : Nat} (e : sG M' x = sG M x) : cur M' x = cur M x := by unfold cur; rw [e]
theorem oF.keep (L : Later s B s' B') {kd : Int} {h k x : Nat} (e : sG s'.M x = sG s.M x) (f : oF s kd h k x) : oF s' kd h k x := by
 obtain ⟨h1, h2, h3⟩ := f
 have hc := cur_keep (x := x) e
 refine ⟨h1, ?_, ?_⟩
 ·rw [hc]; exact (L.born _ h2).1
 ·rw [hc]; exact (h3.later L).mono L.n
theorem numF.keep (L : Later s B s' B') {h n j : Nat} (hb : Born s.M h) (hj : Born s.M (cur s.M j)) (e : sG s'.M j = sG s.M j) (en : s.M (.number j) ≠ 0 → s'.M (.number j) = s.M (.number j)) (f : numF s B h n j) : numF s' B' h n j := by
 rcases f with f | ⟨f1, f2⟩
 ·left; rw [cur_keep (x := j) e]; exact f.later L hb hj
 ·right; rw [en f1]; exact ⟨f1, f2⟩
theorem jF.keep (L : Later s B s' B') {h n j kd : Nat} {p : JP} (hb : Born s.M h) (hj : Born s.M (cur s.M j)) (e : sG s'.M j = sG s.M j) (en : s.M (.number j) ≠ 0 → s'.M (.number j) = s.M (.number j)) (f : jF s B h n j kd p) : jF s' B' h n j kd p := by
 cases p with
 | look => trivial
 | number w =>
  refine ⟨fun h1 => ?_, f.2.keep L hb hj e en⟩
  rw [cur_keep (x := j) e]; exact ((f.1 h1).later L).mono L.n
 | lay w => intro h1; rw [cur_keep (x := j) e]; exact (f h1).later L hb hj
theorem opnF.keep {t i w : Nat} (hB : B' (16 * gnOf w + i + 1) = B (16 * gnOf w + i + 1)) (hev : ∀ ev' : Ev, s'.evs[s'.at_ t]? = some ev' → ∃ ev, s.evs[s.at_ t]? = some ev ∧ ev'.bg = ev.bg) (f : opnF c s B t i w) : opnF c s' B' t i w := by
 refine ⟨f.1, f.2.1, fun ev' h1 => ?_⟩
 obtain ⟨ev, h2, h3⟩ := hev ev' h1
 rw [hB, h3]; exact f.2.2 ev h2
structure Keeps (s : Wd) (B : Nat → Nat) (s' : Wd) (B' : Nat → Nat) (t : Nat) (m : Mach) : Prop where
 L : Later s B s' B'
 snap : ∀ i, slotOf m = some i → s'.M (.snapshot i) = s.M (.snapshot i)
 hold : ∀ x, holds m x → sG s'.M x = sG s.M x
 num : ∀ x, holds m x → s.M (.number x) ≠ 0 → s'.M (.number x) = s.M (.number x)
 own : ∀ i, slotOf m = some i → ∀ g, B' (16 * g + i + 1) = B (16 * g + i + 1)
 ev : ∀ ev' : Ev, s'.evs[s'.at_ t]? = some ev' → ∃ ev, s.evs[s.at_ t]? = some ev ∧ ev'.bg = ev.bg
 n4 : ∀ b q, B' b = B b → n4q s B b q → n4q s' B' b q
 bh : ∀ h, tkOf m = some h → slotOf m ≠ none → Born s.M h
theorem lawM_keep {t : Nat} {m : Mach} (K : Keeps s B s' B' t m) (f : lawM c s B t m) : lawM c s' B' t m := by
 have L := K.L
 have mono : ∀ {kd h : Nat}, Pr s s.n B kd h → Pr s' s'.n B' kd h := fun h => (h.later L).mono L.n
 cases m
 case oTake => exact f
 case oTally i w => exact opnF.keep (K.own _ rfl _) K.ev f
 case oHelp i w x p => exact opnF.keep (K.own _ rfl _) K.ev f
 case oNote i w q => exact ⟨opnF.keep (K.own _ rfl _) K.ev f.1, K.n4 _ _ (K.own _ rfl _) f.2⟩
 case oStart i w q => exact ⟨opnF.keep (K.own _ rfl _) K.ev f.1, K.n4 _ _ (K.own _ rfl _) f.2.1, (K.snap _ rfl).trans f.2.2⟩
 case rLook => exact f.trans (K.snap _ rfl).symm
 case rMark => exact f.trans (K.snap _ rfl).symm
 case wLook => exact f.trans (K.snap _ rfl).symm
 case wMark => exact f.trans (K.snap _ rfl).symm
 case rJoin h k n j r p =>
  have hj : j ∈ j :: r := List.mem_cons_self ..
  exact ⟨f.1.trans (K.snap _ rfl).symm, fun x hx => (f.2.1 x hx).keep L (K.hold x hx), f.2.2.keep L (K.bh _ rfl (by simp [slotOf])) (f.2.1 j hj).2.1 (K.hold j hj) (K.num j hj)⟩
 case wJoin h k n j r p =>
  have hj : j ∈ j :: r := List.mem_cons_self ..
  exact ⟨f.1.trans (K.snap _ rfl).symm, fun x hx => (f.2.1 x hx).keep L (K.hold x hx), f.2.2.keep L (K.bh _ rfl (by simp [slotOf])) (f.2.1 j hj).2.1 (K.hold j hj) (K.num j hj)⟩
 case rOwn h k n j r p => exact ⟨f.1.trans (K.snap _ rfl).symm, fun x hx => (f.2.1 x hx).keep L (K.hold x hx), mono f.2.2⟩
 case wOwn h k n j r p => exact ⟨f.1.trans (K.snap _ rfl).symm, fun x hx => (f.2.1 x hx).keep L (K.hold x hx), mono f.2.2⟩
 case rLeave h k ab p e => exact fun h1 => ((f h1).later L).mono L.n
 case wLeave h k ab p e => exact ⟨fun h1 => ((f.1 h1).later L).mono L.n, fun h1 => ((f.2 h1).later L).mono L.n⟩
 case wRival h k n w j r =>
  exact ⟨f.1.trans (K.snap _ rfl).symm, fun x hx => (f.2.1 x hx).keep L (K.hold x (.inl hx)), fun ho x hx => (f.2.2 ho x hx).keep L (K.hold x (.inr ⟨ho, hx⟩))⟩
 case wNumber h k n w j r =>
  have hj : j ∈ j :: r := List.mem_cons_self ..
  exact ⟨f.1.trans (K.snap _ rfl).symm, fun x hx => (f.2.1 x hx).keep L (K.hold x (.inl hx)), fun ho x hx => (f.2.2.1 ho x hx).keep L (K.hold x (.inr ⟨ho, hx⟩)), f.2.2.2.keep L (K.bh _ rfl (by simp [slotOf])) (f.2.1 j hj).2.1 (K.hold j (.inl hj)) (K.num j (.inl hj))⟩
 case cDoom h w => exact ⟨mono f.1, mono f.2⟩
 all_goals trivial
theorem lvF_keep {t : Nat} {kd : Kd} {a : Ans} (L : Later s B s' B') (hB : B a.h ≤ B' a.h) (hev : ∀ ev' : Ev, s'.evs[s'.at_ t]? = some ev' → ∃ ev, s.evs[s.at_ t]? = some ev ∧ ev'.bg = ev.bg ∧ ev'.h = ev.h ∧ ev'.k = ev.k) (f : lvF s B t kd a) : lvF s' B' t kd a := by
 intro ev' h1
 obtain ⟨ev, h2, h3, h4, h5⟩ := hev ev' h1
 obtain ⟨f1, f2, f3⟩ := f ev h2
 rw [h3, h4, h5]
 refine ⟨fun e => ((f1 e).later L).mono L.n, fun e => ?_, fun e1 e2 => Nat.le_trans (f3 e1 e2) hB⟩
 obtain ⟨κ, g1, g2⟩ := f2 e
 exact ⟨κ, g1, (g2.later L).mono L.n⟩
theorem mt_live (hnum : NumI c s) {a b : Nat} (ha : ¬ EndedAt s.M a) (hb : ¬ EndedAt s.M b) : Mt s B a b := by
 intro j ev h1 h2
 have := hnum.ended j ev h1 h2
 constructor <;> (intro h3; rw [h3] at this)
 ·exact (ha this).elim
 ·exact (hb this).elim
theorem own_live {M : Mm} {h : Nat} (k : own2 M h (· = 2)) : ¬ EndedAt M h ∧ Born M h := by
 obtain ⟨k1, k2, k3⟩ := k
 constructor
 ·rintro (e | ⟨_, e, _⟩)
  ·omega
  ·omega
 ·exact .inr ⟨k2.symm, by omega⟩
theorem numF_seen (hnum : NumI c s) (hl : LawI c s B) {h n j : Nat} (h1 : 1 ≤ h % 16) (h12 : sl h < 12) (k : own2 s.M h (· = 2)) (hn : n = s.M (.snapshot (sl h))) (hj : j < 12) (h4 : sS s.M j = 4) : numF s B h n j := by
 have hc := cur_own h1 k.2.1
 by_cases e0 : s.M (.number j) = 0
 ·left
  refine mt_live hnum (own_live k).1 ?_
  rw [ended_cur hj]
  rintro ⟨_, h5⟩
  exact h5 h4 e0
 ·by_cases e1 : s.M (.number j) ≤ n
  ·exact .inr ⟨e0, e1⟩
  ·left
   intro i ev h5 h6
   have hE := hnum.ended i ev h5 h6
   refine ⟨fun h7 => ?_, fun h7 => ?_⟩
   ·rw [h7] at hE; exact ((own_live k).1 hE).elim
   ·have := hl.n4 (sl h) h12 k.2.2 j hj h4 (by omega) i ev h5 h6 h7
    rw [hc] at this; exact this
theorem numF_far {h n j : Nat} (f : numF s B h n j) (hp : Ta.pastB (s.M (.number j) : Int) (n : Int) = false) : Mt s B h (cur s.M j) := by
 rcases f with f | ⟨f1, f2⟩
 ·exact f
 ·exfalso
  unfold Ta.pastB at hp
  have := of_decide_eq_false hp
  omega
theorem list_seen (hmk : MkI c s) (hl : LawI c s B) {k w h : Nat} {kd : Nat} (hk : (k : Int) < c.K) (hkd : kd ≤ 1) (e : s.M (.key k) = w) : ∀ x, x ∈ otherN w (kd : Int) (sl h) → oF s (2 + (kd : Int)) h k x := by
 intro x hx
 obtain ⟨h1, h2, h3⟩ := mem_other.1 hx
 have hm : mk s.M k kd x := by unfold mk; rw [e]; exact h2
 have hmid := hmk.at_ k kd x hk hkd hm
 exact ⟨h3, (born_cur h1).2 hmid.1, hl.mrk k kd x hk hkd hm⟩
theorem jjudge_law {w : Nat} {side : Int} {b kd : Nat} (hs : (1 : Int) - side = (kd : Int)) :
  match jjudge w side b with
  | .go p => p = .lay w
  | .none => False
  | .laid => True
  | .fail => St.anyW w (kd : Int) = true := by
 unfold jjudge
 rw [hs]
 by_cases e1 : St.hasW w side (b : Int) = true
 ·rw [if_pos e1]; trivial
 ·rw [if_neg e1]
  by_cases e2 : stOf w ≠ 2 ∧ St.anyW w (kd : Int) = true
  ·rw [if_pos e2]; exact e2.2
  ·rw [if_neg e2]
theorem jstep_law (hr : c.right) (hnum : NumI c s) (hl : LawI c s B) {h n j b kd : Nat} {side : Int} {p : JP} (hs : (1 : Int) - side = (kd : Int)) (hkd : kd ≤ 1) (h1 : 1 ≤ h % 16) (h12 : sl h < 12) (k : own2 s.M h (· = 2)) (hn : n = s.M (.snapshot (sl h))) (hj : (j : Int) < c.S) (hw : jWd p) (f : jF s B h n j kd p) :
  match (jstep s.M j side b n p).2 with
  | .go p' => jF s B h n j kd p'
  | .none => True
  | .laid => Mt s B h (cur s.M j)
  | .fail => Mt s B h (cur s.M j) ∧ Pr s s.n B kd (cur s.M j) := by
 have hj12 : j < 12 := by obtain ⟨a1, a2, a3, a4, _⟩ := hr; omega
 have live : stOf (s.M (.status j)) = 2 ∨ stOf (s.M (.status j)) = 3 → Mt s B h (cur s.M j) := by
  intro h2
  refine mt_live hnum (own_live k).1 ?_
  rw [ended_cur hj12]
  rintro ⟨h5, _⟩
  simp only [sS] at h5
  omega
 cases p with
 | look =>
  simp only [jstep]
  by_cases e4 : stOf (s.M (.status j)) = 4
  ·rw [if_pos e4]
   exact ⟨fun h2 => hl.any j kd hj hkd h2, numF_seen hnum hl h1 h12 k hn hj12 e4⟩
  ·rw [if_neg e4]
   by_cases e2 : stOf (s.M (.status j)) = 2 ∨ stOf (s.M (.status j)) = 3
   ·rw [if_pos e2]
    have hJ := jjudge_law (w := s.M (.status j)) (side := side) (b := b) hs
    generalize jjudge (s.M (.status j)) side b = J at hJ ⊢
    cases J with
    | go p => simp only at hJ; subst hJ; intro h5; exact (e4 h5).elim
    | none => trivial
    | laid => exact live e2
    | fail => exact ⟨live e2, hl.any j kd hj hkd hJ⟩
   ·rw [if_neg e2]; trivial
 | number w =>
  simp only [jstep]
  by_cases e : Ta.pastB (s.M (.number j) : Int) (n : Int) = true
  ·rw [if_pos e]; trivial
  ·rw [if_neg e]
   have hM := numF_far f.2 (by simpa using e)
   have hJ := jjudge_law (w := w) (side := side) (b := b) hs
   generalize jjudge w side b = J at hJ ⊢
   cases J with
   | go p => simp only at hJ; subst hJ; exact fun _ => hM
   | none => trivial
   | laid => exact hM
   | fail => exact ⟨hM, f.1 hJ⟩
 | lay w =>
  simp only [jstep]
  by_cases e : s.M (.status j) = w
  ·rw [if_pos e]
   rcases hw with h2 | h2 | h2
   ·exact live (by rw [e]; exact .inl h2)
   ·exact live (by rw [e]; exact .inr h2)
   ·exact f h2
  ·rw [if_neg e]; trivial
theorem own_gd (hst : Str c s) {t : Nat} (ht : (t : Int) < c.T) {m : Mach} (hth : s.th t = .work m) (hg : goodM m) {kd : Int} {h k : Nat} (hop : ∀ kd' h' k', opR kd' h' k' m → kd' = kd ∧ h' = (h : Int) ∧ k' = (k : Int)) : Gd s s.n kd h k := by
 obtain ⟨ev, h1, h2, h3⟩ := hst.at_ t ht (by rw [hth]; rfl)
 obtain ⟨r1, r2, r3, r4⟩ := hst.run _ ev h1 h2
 rw [h3, hth] at r3 r4
 obtain ⟨o1, o2, o3⟩ := hop _ _ _ r3
 refine ⟨_, ev, h1, o1, by omega, o3, r4 rfl, (hst.ev _ ev h1).1, fun h => (by rw [h2] at h; cases h), fun _ => ?_⟩
 rw [h3, hth]; exact hg
end
structure At (c : Cfg) (s : Wd) (B : Nat → Nat) (id : Nat) (m : Mach) (s' : Wd) (B' : Nat → Nat) : Prop where
 hr : c.right
 hst : Str c s
 ho : OwnI c s
 hmk : MkI c s
 hp : PinI c s
 hnum : NumI c s
 hl : LawI c s B
 hid : (id : Int) < c.T
 hth : s.th id = .work m
 M : s'.M = upd s.M (mstep c id s.M m).1.1 (mstep c id s.M m).1.2
 th : s'.th id = goesOn (mstep c id s.M m).2
 n : s'.n = s.n + 1
 bB : B' = bStep s id B
 hst' : Str c s'
 L : Later s B s' B'
 ev : ∀ ev' : Ev, s'.evs[s'.at_ id]? = some ev' → ∃ ev, s.evs[s.at_ id]? = some ev ∧ ev'.bg = ev.bg ∧ ev'.h = ev.h ∧ ev'.k = ev.k ∧ opR ev.kd (ev.h : Int) ev.k m
 n4 : ∀ b q, B' b = B b → n4q s B b q → n4q s' B' b q
section
variable {c : Cfg} {s s' : Wd} {B B' : Nat → Nat} {id : Nat} {m : Mach}
theorem At.mok (A : At c s B id m s' B') : mOK c id m := by have := A.hst.tok id A.hid; rw [A.hth] at this; exact this.1
theorem At.wd (A : At c s B id m s' B') : wdOK m := by have := A.hst.wd id A.hid; rw [A.hth] at this; exact this
theorem At.own (A : At c s B id m s' B') : ownR s.M m := by have := A.ho.own id A.hid; rw [A.hth] at this; exact this
theorem At.law (A : At c s B id m s' B') : lawM c s B id m := by have := A.hl.th id A.hid; rw [A.hth] at this; exact this
theorem At.s12 (A : At c s B id m s' B') {i : Nat} (h : (i : Int) < c.S) : i < 12 := by obtain ⟨a1, a2, a3, a4, _⟩ := A.hr; omega
theorem At.gen (A : At c s B id m s' B') {x : Nat} (hx : holds m x) : sG s'.M x = sG s.M x := by
 have := hold_gen A.hr A.hst A.ho A.hp A.hid A.hid (j := x) (by rw [A.hth]; exact hx)
 rw [A.hth] at this
 rw [A.M]; exact this
theorem At.number (A : At c s B id m s' B') {x y : Nat} (hx : holds m x) (e : s.M (.number y) ≠ 0) : s'.M (.number y) = s.M (.number y) := by
 rw [A.M]
 rcases step_num (c := c) (id := id) (M := s.M) m y with h | ⟨h, _⟩ | ⟨h, rfl, _⟩
 ·exact h
 ·exact (e h).elim
 ·exact hx.elim
theorem At.birth (A : At c s B id m s' B') (h : ∀ i w, m ≠ .oTake i w) (a : Nat) : B' a = B a := by
 rw [A.bB]
 refine bStep_ne fun i w e _ => ?_
 rw [A.hth] at e
 cases e
 exact (h i w rfl).elim
theorem At.snap (A : At c s B id m s' B') (h : ∀ i w q, m ≠ .oNote i w q) (i : Nat) : s'.M (.snapshot i) = s.M (.snapshot i) := by
 rw [A.M]
 rcases step_snap (c := c) (id := id) (M := s.M) m i with e | ⟨w, q, e, _⟩
 ·exact e
 ·exact (h _ _ _ e).elim
theorem At.keeps (A : At c s B id m s' B') (h1 : ∀ i w, m ≠ .oTake i w) (h2 : ∀ i w q, m ≠ .oNote i w q) (hb : ∀ h, tkOf m = some h → slotOf m ≠ none → Born s.M h) : Keeps s B s' B' id m :=
 ⟨A.L, fun i _ => A.snap h2 i, fun x hx => A.gen hx, fun x hx e => A.number hx e, fun i _ g => A.birth h1 _, fun ev' h => by obtain ⟨ev, e1, e2, _⟩ := A.ev ev' h; exact ⟨ev, e1, e2⟩, A.n4, hb⟩
theorem lv_none {t : Nat} {kd : Kd} {a : Ans} (h7 : a.e ≠ 7) (h8 : a.e ≠ 8) (h0 : kd = .o → a.e ≠ 0) : lvF s' B' t kd a :=
 fun ev _ => ⟨fun e => (h7 e).elim, fun e => (h8 e).elim, fun e1 e2 => (h0 e1 e2).elim⟩
theorem At.conf (A : At c s B id m s' B') {h k j : Nat} {okd : Int} (h1 : 1 ≤ h % 16) (ho : own2 s.M h (· = 2)) (hj : (j : Int) < c.S) (hM : Mt s B h (cur s.M j)) (hg : sG s'.M j = sG s.M j) (hf : oF s okd h k j) {m' : Mach} (hth : s'.th id = .work m') (hgood : goodM m') :
  (okd = 3 → (∀ kd' h' k', opR kd' h' k' m' → kd' = 2 ∧ h' = (h : Int) ∧ k' = (k : Int)) → Cf s' s'.n B' h (cur s.M j)) ∧
  (okd = 2 → (∀ kd' h' k', opR kd' h' k' m' → kd' = 3 ∧ h' = (h : Int) ∧ k' = (k : Int)) → Cf s' s'.n B' (cur s.M j) h) := by
 have hj12 := A.s12 hj
 have hne : h ≠ cur s.M j := by
  intro e
  have := (sl_cur (M := s.M) hj12).1
  rw [← e] at this
  exact hf.1 this.symm
 have hbo := (own_live ho).2
 have hM' := hM.later A.L hbo hf.2.1
 have hG := (hf.2.2.later A.L).mono A.L.n
 refine ⟨fun e hop => ?_, fun e hop => ?_⟩ <;> subst e
 ·exact ⟨hne, (A.L.born _ hbo).1, (A.L.born _ hf.2.1).1, hM', k, own_gd A.hst' A.hid hth hgood hop, hG⟩
 ·exact ⟨fun e => hne e.symm, (A.L.born _ hf.2.1).1, (A.L.born _ hbo).1, hM'.symm, k, hG, own_gd A.hst' A.hid hth hgood hop⟩
theorem law_rNext {h k n t : Nat} {r : List Nat} (hn : n = s'.M (.snapshot (sl h))) (hl : ∀ x, x ∈ r → oF s' 3 h k x) : lawT c s' B' t (goesOn (rNext h k n r)) := by
 cases r with
 | nil => intro e; cases e
 | cons j r => exact ⟨hn, hl, trivial⟩
theorem law_wNext {h k n t : Nat} {r : List Nat} (hn : n = s'.M (.snapshot (sl h))) (hl : ∀ x, x ∈ r → oF s' 2 h k x) : lawT c s' B' t (goesOn (wNext h k n r)) := by
 cases r with
 | nil => exact ⟨fun e => (by cases e), fun e => (by cases e)⟩
 | cons j r => exact ⟨hn, hl, trivial⟩
theorem law_wGoes {h k n w t : Nat} {r : List Nat} (hn : n = s'.M (.snapshot (sl h))) (hl : ∀ x, x ∈ r → oF s' 3 h k x) (hw : Ma.hasW w 1 (sl h : Int) = true → ∀ x, x ∈ otherN w 0 (sl h) → oF s' 2 h k x) : lawT c s' B' t (goesOn (wGoes h k n w r)) := by
 cases r with
 | nil =>
  simp only [wGoes]
  by_cases e : Ma.hasW w 1 (sl h : Int) = true
  ·rw [if_pos e]; exact law_wNext hn (hw e)
  ·rw [if_neg e]; exact hn
 | cons j r => exact ⟨hn, hl, hw⟩
theorem At.bornh (A : At c s B id m s' B') {h : Nat} (k : own2 s.M h (· = 2)) : ∀ x, some h = some x → slotOf m ≠ none → Born s.M x := by
 intro x e _; cases e; exact (own_live k).2
end
section
variable {c : Cfg} {s s' : Wd} {B B' : Nat → Nat} {id : Nat}
theorem At.one {m : Mach} (A : At c s B id m s' B') {h : Nat} (k : tk c h) : 1 ≤ h % 16 ∧ sl h < 12 := by have := tk_of k; exact ⟨this.1, by omega⟩
theorem At.gen_far {m : Mach} (A : At c s B id m s' B') (h : ∀ i, (mstep c id s.M m).1.1 ≠ .status i) (x : Nat) : sG s'.M x = sG s.M x := by
 simp only [sG]
 rw [A.M, upd_ne _ _ (Ne.symm (h x))]
theorem At.gen_ld {m : Mach} (A : At c s B id m s' B') {sp : Spot} (h : (mstep c id s.M m).1 = ld s.M sp) (x : Nat) : sG s'.M x = sG s.M x := by
 rw [A.M, h, upd_ld]
theorem law_oTake {i w : Nat} (A : At c s B id (.oTake i w) s' B') : lawT c s' B' id (goesOn (mstep c id s.M (.oTake i w)).2) := by
 have hlt := A.law
 simp only [mstep]
 by_cases e : s.M (.status i) = w
 ·rw [if_pos e]
  have h12 := A.s12 A.mok.1
  have hS : sS s.M i = 0 := by simp only [sS, e]; exact A.wd
  refine ⟨fun kd hkd => ?_, hlt, fun ev' h1 => ?_⟩
  ·cases h2 : St.anyW w (kd : Int) with
   | false => rfl
   | true =>
    rw [← e] at h2
    have := A.hl.any i kd A.mok.1 hkd h2
    have hb : ¬ Born s.M (cur s.M i) := by rw [born_cur h12]; omega
    rcases this with ⟨_, b, h3⟩ | ⟨_, b, h3⟩
    ·exact (hb h3.2.1).elim
    ·exact (hb h3.2.2.1).elim
  ·have e2 : 16 * gnOf w + i + 1 = cur s.M i := by unfold cur sG; rw [e]
   rw [e2, A.bB, bStep_at A.hth e, ← A.n]
   exact (A.hst'.ev _ ev' h1).1
 ·rw [if_neg e]
  unfold oGoes
  split
  ·trivial
  ·exact lv_none (by decide) (by decide) (fun _ => by decide)
theorem law_oLook {i : Nat} (A : At c s B id (.oLook i) s' B') : lawT c s' B' id (goesOn (mstep c id s.M (.oLook i)).2) := by
 simp only [mstep]
 split
 ·unfold oGoes
  split
  ·trivial
  ·exact lv_none (by decide) (by decide) (fun _ => by decide)
 ·rename_i h
  show (gnOf (s.M (.status i)) : Int) ≤ c.L
  omega
theorem nb {m : Mach} (h : tkOf m = none) : ∀ h, tkOf m = some h → slotOf m ≠ none → Born s.M h := by
 intro x e; rw [h] at e; cases e
theorem law_oTally {i w : Nat} (A : At c s B id (.oTally i w) s' B') : lawT c s' B' id (goesOn (mstep c id s.M (.oTally i w)).2) := by
 have K := lawM_keep (A.keeps (by intro _ _ e; cases e) (by intro _ _ _ e; cases e) (nb rfl)) A.law
 have hM : s'.M = s.M := by rw [A.M]; exact upd_ld _ _
 simp only [mstep]
 split
 ·exact K
 ·refine ⟨K, fun j _ h4 hq => ?_⟩
  have := A.hnum.n1 j
  rw [hM] at hq
  unfold seqN at this
  omega
theorem law_oHelp {i w x : Nat} {p : HP} (A : At c s B id (.oHelp i w x p) s' B') : lawT c s' B' id (goesOn (mstep c id s.M (.oHelp i w x p)).2) := by
 have K := lawM_keep (A.keeps (by intro _ _ e; cases e) (by intro _ _ _ e; cases e) (nb rfl)) A.law
 simp only [mstep]
 split <;> exact K
theorem law_oNote {i w q : Nat} (A : At c s B id (.oNote i w q) s' B') : lawT c s' B' id (goesOn (mstep c id s.M (.oNote i w q)).2) := by
 have f := A.law
 have hb := A.birth (by intro _ _ e; cases e) (16 * gnOf w + i + 1)
 refine ⟨opnF.keep hb (fun ev' h => by obtain ⟨ev, e1, e2, _⟩ := A.ev ev' h; exact ⟨ev, e1, e2⟩) f.1, A.n4 _ _ hb f.2, ?_⟩
 rw [A.M]
 exact upd_at _ _ _
theorem make_val {i g : Nat} (hr : c.right) (hi : (i : Int) < c.S) (hg : (g : Int) ≤ c.L) : makeN (i : Int) (g : Int) = 16 * g + i + 1 := by
 obtain ⟨a1, a2, a3, a4, a5, a6, a7, a8, a9, a10⟩ := hr
 unfold makeN
 rw [(Ti.make_yes (s := (i : Int)) (g := (g : Int)) ⟨by omega, by omega, by omega, by omega⟩).2]
 omega
theorem law_oStart {i w q : Nat} (A : At c s B id (.oStart i w q) s' B') : lawT c s' B' id (goesOn (mstep c id s.M (.oStart i w q)).2) := by
 have f := A.law
 have hb := A.birth (by intro _ _ e; cases e) (16 * gnOf w + i + 1)
 intro ev' h1
 obtain ⟨ev, h2, h3, _⟩ := A.ev ev' h1
 refine ⟨fun e => (by cases e), fun e => (by cases e), fun _ _ => ?_⟩
 show ev'.bg ≤ B' (makeN (i : Int) (gnOf w : Int))
 rw [make_val A.hr A.mok.1 f.1.2.1, hb, h3]
 exact f.1.2.2 ev h2
theorem law_rSnap {h k : Nat} (A : At c s B id (.rSnap h k) s' B') : lawT c s' B' id (goesOn (mstep c id s.M (.rSnap h k)).2) := by
 show s.M (.snapshot (sl h)) = s'.M (.snapshot (sl h))
 exact (A.snap (by intro _ _ _ e; cases e) _).symm
theorem law_wSnap {h k : Nat} (A : At c s B id (.wSnap h k) s' B') : lawT c s' B' id (goesOn (mstep c id s.M (.wSnap h k)).2) := by
 show s.M (.snapshot (sl h)) = s'.M (.snapshot (sl h))
 exact (A.snap (by intro _ _ _ e; cases e) _).symm
theorem law_rLook {h k n : Nat} (A : At c s B id (.rLook h k n) s' B') : lawT c s' B' id (goesOn (mstep c id s.M (.rLook h k n)).2) := by
 have hn : n = s'.M (.snapshot (sl h)) := A.law.trans (A.snap (by intro _ _ _ e; cases e) _).symm
 have hg := A.gen_ld (sp := .key k) rfl
 simp only [mstep]
 split
 ·exact law_rNext hn fun x hx => (list_seen A.hmk A.hl (kd := 1) A.mok.2.1 (by omega) rfl x hx).keep A.L (hg x)
 ·exact hn
theorem law_rMark {h k n w : Nat} (A : At c s B id (.rMark h k n w) s' B') : lawT c s' B' id (goesOn (mstep c id s.M (.rMark h k n w)).2) := by
 have hn : n = s'.M (.snapshot (sl h)) := A.law.trans (A.snap (by intro _ _ _ e; cases e) _).symm
 have hg := A.gen_far (by intro i e; cases e)
 simp only [mstep]
 split
 ·rename_i e
  exact law_rNext hn fun x hx => (list_seen A.hmk A.hl (kd := 1) A.mok.2.1 (by omega) e x hx).keep A.L (hg x)
 ·exact hn
theorem law_wLook {h k n : Nat} (A : At c s B id (.wLook h k n) s' B') : lawT c s' B' id (goesOn (mstep c id s.M (.wLook h k n)).2) := by
 have hn : n = s'.M (.snapshot (sl h)) := A.law.trans (A.snap (by intro _ _ _ e; cases e) _).symm
 have hg := A.gen_ld (sp := .key k) rfl
 exact law_wGoes hn (fun x hx => (list_seen A.hmk A.hl (kd := 1) A.mok.2.1 (by omega) rfl x hx).keep A.L (hg x)) (fun _ x hx => (list_seen A.hmk A.hl (kd := 0) A.mok.2.1 (by omega) rfl x hx).keep A.L (hg x))
theorem law_wMark {h k n w : Nat} (A : At c s B id (.wMark h k n w) s' B') : lawT c s' B' id (goesOn (mstep c id s.M (.wMark h k n w)).2) := by
 have hn : n = s'.M (.snapshot (sl h)) := A.law.trans (A.snap (by intro _ _ _ e; cases e) _).symm
 have hg := A.gen_far (by intro i e; cases e)
 simp only [mstep]
 split
 ·rename_i e
  exact law_wNext hn fun x hx => (list_seen A.hmk A.hl (kd := 0) A.mok.2.1 (by omega) e x hx).keep A.L (hg x)
 ·exact hn
theorem law_rJoin {h k n j : Nat} {r : List Nat} {p : JP} (A : At c s B id (.rJoin h k n j r p) s' B') : lawT c s' B' id (goesOn (mstep c id s.M (.rJoin h k n j r p)).2) := by
 have ho : own2 s.M h (· = 2) := A.own
 have f := A.law
 have F := lawM_keep (A.keeps (by intro _ _ e; cases e) (by intro _ _ _ e; cases e) (A.bornh ho)) f
 have h1 := (A.one A.mok.1).1
 have hj : (j : Int) < c.S := A.mok.2.2.2.1 j (List.mem_cons_self ..)
 have hJ := jstep_law (b := sl h) (side := 1) A.hr A.hnum A.hl (kd := 0) rfl (by omega) h1 (A.one A.mok.1).2 ho f.1 hj A.wd f.2.2
 have hgj := A.gen (x := j) (List.mem_cons_self ..)
 have hth := A.th
 have hcj := cur_keep (x := j) hgj
 simp only [mstep] at hth ⊢
 generalize (jstep s.M j 1 (sl h) n p).2 = R at hJ hth ⊢
 cases R with
 | go p' =>
  exact ⟨F.1, F.2.1, hJ.keep A.L (own_live ho).2 (f.2.1 j (List.mem_cons_self ..)).2.1 hgj (A.number (List.mem_cons_self ..))⟩
 | none => exact law_rNext F.1 fun x hx => F.2.1 x (List.mem_cons_of_mem _ hx)
 | laid =>
  have hC := (A.conf h1 ho hj hJ hgj (f.2.1 j (List.mem_cons_self ..)) hth trivial).1 rfl (fun _ _ _ e => e)
  exact ⟨F.1, fun x hx => F.2.1 x (List.mem_cons_of_mem _ hx), .inl ⟨rfl, _, hC⟩⟩
 | fail =>
  have hC := (A.conf h1 ho hj hJ.1 hgj (f.2.1 j (List.mem_cons_self ..)) hth (.inr rfl)).1 rfl (fun _ _ _ e => e)
  intro _
  have hP := (hJ.2.later A.L).mono A.L.n
  rcases hP with ⟨_, b, hb⟩ | ⟨e, _⟩
  ·exact ⟨h, _, b, .inl rfl, hC, hb⟩
  ·cases e
theorem law_wJoin {h k n j : Nat} {r : List Nat} {p : JP} (A : At c s B id (.wJoin h k n j r p) s' B') : lawT c s' B' id (goesOn (mstep c id s.M (.wJoin h k n j r p)).2) := by
 have ho : own2 s.M h (· = 2) := A.own
 have f := A.law
 have F := lawM_keep (A.keeps (by intro _ _ e; cases e) (by intro _ _ _ e; cases e) (A.bornh ho)) f
 have h1 := (A.one A.mok.1).1
 have hj : (j : Int) < c.S := A.mok.2.2.2.1 j (List.mem_cons_self ..)
 have hJ := jstep_law (b := sl h) (side := 0) A.hr A.hnum A.hl (kd := 1) rfl (by omega) h1 (A.one A.mok.1).2 ho f.1 hj A.wd f.2.2
 have hgj := A.gen (x := j) (List.mem_cons_self ..)
 have hth := A.th
 simp only [mstep] at hth ⊢
 generalize (jstep s.M j 0 (sl h) n p).2 = R at hJ hth ⊢
 cases R with
 | go p' =>
  exact ⟨F.1, F.2.1, hJ.keep A.L (own_live ho).2 (f.2.1 j (List.mem_cons_self ..)).2.1 hgj (A.number (List.mem_cons_self ..))⟩
 | none => exact law_wNext F.1 fun x hx => F.2.1 x (List.mem_cons_of_mem _ hx)
 | laid =>
  have hC := (A.conf h1 ho hj hJ hgj (f.2.1 j (List.mem_cons_self ..)) hth trivial).2 rfl (fun _ _ _ e => e)
  exact ⟨F.1, fun x hx => F.2.1 x (List.mem_cons_of_mem _ hx), .inr ⟨rfl, _, hC⟩⟩
 | fail =>
  have hC := (A.conf h1 ho hj hJ.1 hgj (f.2.1 j (List.mem_cons_self ..)) hth (.inr rfl)).2 rfl (fun _ _ _ e => e)
  refine ⟨fun _ => ?_, fun e => (by cases e)⟩
  have hP := (hJ.2.later A.L).mono A.L.n
  rcases hP with ⟨e, _⟩ | ⟨_, a, ha⟩
  ·cases e
  ·exact ⟨a, _, h, .inr (.inr rfl), ha, hC⟩
theorem law_rOwn {h k n j : Nat} {r : List Nat} {p : EP} (A : At c s B id (.rOwn h k n j r p) s' B') : lawT c s' B' id (goesOn (mstep c id s.M (.rOwn h k n j r p)).2) := by
 have ho : own2 s.M h (· = 2) := A.own
 have F := lawM_keep (A.keeps (by intro _ _ e; cases e) (by intro _ _ _ e; cases e) (A.bornh ho)) A.law
 simp only [mstep]
 split
 ·exact F
 ·exact law_rNext F.1 F.2.1
theorem law_wOwn {h k n j : Nat} {r : List Nat} {p : EP} (A : At c s B id (.wOwn h k n j r p) s' B') : lawT c s' B' id (goesOn (mstep c id s.M (.wOwn h k n j r p)).2) := by
 have ho : own2 s.M h (· = 2) := A.own
 have F := lawM_keep (A.keeps (by intro _ _ e; cases e) (by intro _ _ _ e; cases e) (A.bornh ho)) A.law
 simp only [mstep]
 split
 ·exact F
 ·exact law_wNext F.1 F.2.1
theorem law_rLeave {h k : Nat} {ab : Bool} {p : EP} {e : Int} (A : At c s B id (.rLeave h k ab p e) s' B') : lawT c s' B' id (goesOn (mstep c id s.M (.rLeave h k ab p e)).2) := by
 have ho : own2 s.M h (· = 2) := A.own
 have F := lawM_keep (A.keeps (by intro _ _ e; cases e) (by intro _ _ _ e; cases e) (A.bornh ho)) A.law
 simp only [mstep]
 split
 ·exact F
 ·intro ev' h1
  obtain ⟨ev, h2, h3, h4, h5, h6⟩ := A.ev ev' h1
  have e4 : ev'.h = h := by rw [h4]; have := h6.2.1; omega
  refine ⟨fun e7 => ?_, fun e8 => ?_, fun e0 => (by cases e0)⟩
  ·rw [e4]; exact F e7
  ·exfalso
   have := A.wd
   simp only at e8
   simp only [wdOK] at this
   omega
theorem law_wLeave {h k : Nat} {ab : Bool} {p : EP} {e : Int} (A : At c s B id (.wLeave h k ab p e) s' B') : lawT c s' B' id (goesOn (mstep c id s.M (.wLeave h k ab p e)).2) := by
 have ho : own2 s.M h (· = 2) := A.own
 have F := lawM_keep (A.keeps (by intro _ _ e; cases e) (by intro _ _ _ e; cases e) (A.bornh ho)) A.law
 simp only [mstep]
 split
 ·exact F
 ·intro ev' h1
  obtain ⟨ev, h2, h3, h4, h5, h6⟩ := A.ev ev' h1
  have e4 : ev'.h = h := by rw [h4]; have := h6.2.1; omega
  refine ⟨fun e7 => ?_, fun e8 => ?_, fun e0 => (by cases e0)⟩
  ·rw [e4]; exact F.1 e7
  ·refine ⟨k, by rw [h5]; exact h6.2.2, ?_⟩
   rw [e4]; exact F.2 e8
theorem law_clash {h k j : Nat} {m : Mach} (A : At c s B id m s' B') (h1 : 1 ≤ h % 16) (ho : own2 s.M h (· = 2)) (hj : (j : Int) < c.S) (hM : Mt s B h (cur s.M j)) (hf : oF s 3 h k j) : ClashT s' s'.n B' h k := by
 have hbo := (own_live ho).2
 have hne : cur s.M j ≠ h := by
  intro e
  have := (sl_cur (M := s.M) (A.s12 hj)).1
  rw [e] at this
  exact hf.1 this.symm
 exact ⟨cur s.M j, hne, (A.L.born _ hf.2.1).1, (A.L.born _ hbo).1, (hM.later A.L hbo hf.2.1).symm, (hf.2.2.later A.L).mono A.L.n⟩
theorem law_wRival {h k n w j : Nat} {r : List Nat} (A : At c s B id (.wRival h k n w j r) s' B') : lawT c s' B' id (goesOn (mstep c id s.M (.wRival h k n w j r)).2) := by
 have ho : own2 s.M h (· = 2) := A.own
 have f := A.law
 have F := lawM_keep (A.keeps (by intro _ _ e; cases e) (by intro _ _ _ e; cases e) (A.bornh ho)) f
 have h1 := (A.one A.mok.1).1
 have hj : (j : Int) < c.S := A.mok.2.2.2.2.2 j (List.mem_cons_self ..)
 have hj12 := A.s12 hj
 have hfj := f.2.1 j (List.mem_cons_self ..)
 have hgj := A.gen (x := j) (.inl (List.mem_cons_self ..))
 simp only [mstep]
 split
 ·rename_i e2
  refine ⟨fun e => (by cases e), fun _ => law_clash A h1 ho hj (mt_live A.hnum (own_live ho).1 ?_) hfj⟩
  rw [ended_cur hj12]
  rintro ⟨h5, _⟩
  simp only [sS] at h5
  omega
 ·split
  ·rename_i e4
   exact ⟨F.1, F.2.1, F.2.2, (numF_seen A.hnum A.hl h1 (A.one A.mok.1).2 ho f.1 hj12 e4).keep A.L (own_live ho).2 hfj.2.1 hgj (A.number (.inl (List.mem_cons_self ..)))⟩
  ·exact law_wGoes F.1 (fun x hx => F.2.1 x (List.mem_cons_of_mem _ hx)) F.2.2
theorem law_wNumber {h k n w j : Nat} {r : List Nat} (A : At c s B id (.wNumber h k n w j r) s' B') : lawT c s' B' id (goesOn (mstep c id s.M (.wNumber h k n w j r)).2) := by
 have ho : own2 s.M h (· = 2) := A.own
 have f := A.law
 have F := lawM_keep (A.keeps (by intro _ _ e; cases e) (by intro _ _ _ e; cases e) (A.bornh ho)) f
 have h1 := (A.one A.mok.1).1
 have hj : (j : Int) < c.S := A.mok.2.2.2.2.2 j (List.mem_cons_self ..)
 have hfj := f.2.1 j (List.mem_cons_self ..)
 simp only [mstep]
 split
 ·exact law_wGoes F.1 (fun x hx => F.2.1 x (List.mem_cons_of_mem _ hx)) F.2.2.1
 ·rename_i e
  exact ⟨fun e => (by cases e), fun _ => law_clash A h1 ho hj (numF_far f.2.2.2 (by simpa using e)) hfj⟩
theorem law_cJudge {h : Nat} (A : At c s B id (.cJudge h) s' B') : lawT c s' B' id (goesOn (mstep c id s.M (.cJudge h)).2) := by
 have ho : own2 s.M h (· = 2) := A.own
 have k := tk_of (c := c) (h := h) A.mok
 have hc := cur_own k.1 ho.2.1
 simp only [mstep]
 split
 ·rename_i e
  have p0 := A.hl.any (sl h) 0 k.2.2.1 (by omega) e.1
  have p1 := A.hl.any (sl h) 1 k.2.2.1 (by omega) e.2
  rw [hc] at p0 p1
  exact ⟨(p0.later A.L).mono A.L.n, (p1.later A.L).mono A.L.n⟩
 ·trivial
theorem law_cDoom {h w : Nat} (A : At c s B id (.cDoom h w) s' B') : lawT c s' B' id (goesOn (mstep c id s.M (.cDoom h w)).2) := by
 have ho : own2 s.M h (· = 2) := A.own
 have F := lawM_keep (A.keeps (by intro _ _ e; cases e) (by intro _ _ _ e; cases e) (A.bornh ho)) A.law
 simp only [mstep]
 split
 ·intro ev' h1
  obtain ⟨ev, h2, h3, h4, h5, h6⟩ := A.ev ev' h1
  have e4 : ev'.h = h := by rw [h4]; have := h6.2; omega
  refine ⟨fun _ => ?_, fun e => (by cases e), fun e => (by cases e)⟩
  rw [e4]
  rcases F.1 with ⟨_, b, hb⟩ | ⟨e, _⟩
  ·rcases F.2 with ⟨e, _⟩ | ⟨_, a, ha⟩
   ·cases e
   ·exact ⟨a, h, b, .inr (.inl rfl), ha, hb⟩
  ·cases e
 ·trivial
theorem own_law {m : Mach} (A : At c s B id m s' B') : lawT c s' B' id (goesOn (mstep c id s.M m).2) := by
  have en : ∀ {h : Nat} {ok : Nat → Bool} {p : EP} {x : Int} {kd : Kd}, (estep s.M h ok p).2 = .no x → kd ≠ .o → lvF s' B' id kd ⟨x, 0, 0⟩ := by
    intro h ok p x kd e hk
    have := estep_noE e
    exact lv_none this.2.2.1 this.2.2.2 (fun e => (hk e).elim)
  cases m
  case oLook => exact law_oLook A
  case oTake => exact law_oTake A
  case oTally => exact law_oTally A
  case oHelp => exact law_oHelp A
  case oNote => exact law_oNote A
  case oStart => exact law_oStart A
  case rSnap => exact law_rSnap A
  case wSnap => exact law_wSnap A
  case rLook => exact law_rLook A
  case rMark => exact law_rMark A
  case wLook => exact law_wLook A
  case wMark => exact law_wMark A
  case rJoin => exact law_rJoin A
  case wJoin => exact law_wJoin A
  case rOwn => exact law_rOwn A
  case wOwn => exact law_wOwn A
  case rLeave => exact law_rLeave A
  case wLeave => exact law_wLeave A
  case wRival => exact law_wRival A
  case wNumber => exact law_wNumber A
  case cJudge => exact law_cJudge A
  case cDoom => exact law_cDoom A
  case rEnter h k p =>
    simp only [mstep]
    split
    · rename_i e; exact en e (by decide)
    · trivial
    · trivial
  case wEnter h k p =>
    simp only [mstep]
    split
    · rename_i e; exact en e (by decide)
    · trivial
    · trivial
  case cEnter h p =>
    simp only [mstep]
    split
    · rename_i e; exact en e (by decide)
    · trivial
    · trivial
  case aEnter h p =>
    simp only [mstep]
    split
    · rename_i e; exact en e (by decide)
    · trivial
    · trivial
  case sEnter h p =>
    simp only [mstep]
    split
    · rename_i e; exact en e (by decide)
    · trivial
    · repeat' split
      all_goals trivial
  case cLeave h ab p a =>
    have hw := A.wd
    simp only [mstep]
    split
    · trivial
    · refine lv_none ?_ ?_ (fun e => by cases e)
      · rcases hw with hw | hw <;> (intro h; rw [hw.2] at h; cases h)
      · rcases hw with hw | hw <;> (intro h; rw [hw.2] at h; cases h)
  case done kd a => have := A.hst.tok id A.hid; rw [A.hth] at this; exact absurd this.2 (by simp [Mach.isDone])
  case sAged h j num sn =>
    cases sn <;>
    (simp only [mstep, sAges]
     repeat' split
     all_goals trivial)
  all_goals
    simp only [mstep, sAges, sGraces, sGoes, sKey, sOther]
    repeat' split
    all_goals first | trivial | exact lv_none (by decide) (by decide) (fun e => by cases e)
end
theorem slot_lt {c : Cfg} {t : Nat} {m : Mach} {i : Nat} (hm : mOK c t m) (h : slotOf m = some i) : (i : Int) < c.S := by
 cases m <;> simp only [slotOf, reduceCtorEq, Option.some.injEq] at h <;> subst h <;> simp only [mOK] at hm
 all_goals first | exact hm.1 | exact (tk_of hm.1).2.2.1 | exact (tk_of hm).2.2.1
theorem own_born {M : Mm} {m : Mach} {h : Nat} (ho : ownR M m) (e : tkOf m = some h) (hs : slotOf m ≠ none) : Born M h := by
 have o2 : ∀ {x : Nat} {P : Nat → Prop}, own2 M x P → (∀ y, P y → 2 ≤ y) → Born M x := fun k hP => .inr ⟨k.2.1.symm, hP _ k.2.2⟩
 cases m <;> simp only [tkOf, reduceCtorEq, Option.some.injEq] at e <;> subst e <;> simp only [ownR] at ho
 all_goals
  first
  | exact (hs rfl).elim
  | exact o2 ho (fun x hx => by omega)
  | exact o2 ho.1 (fun x hx => by omega)
theorem law_none {c : Cfg} {s : Wd} {B : Nat → Nat} {t : Nat} {m : Mach} (h : slotOf m = none) (h2 : ∀ i w, m ≠ .oTake i w) : lawM c s B t m := by
 cases m <;> first | trivial | (simp only [slotOf, reduceCtorEq] at h; done) | exact (h2 _ _ rfl).elim
theorem lawB_goesOn {c : Cfg} {s : Wd} {B : Nat → Nat} {t : Nat} {m : Mach} (h : slotOf m = none) (h2 : ∀ i w, m ≠ .oTake i w) (hd : ∀ kd a, m = .done kd a → a.e = 2 ∨ a.e = 5) : lawT c s B t (goesOn m) := by
 have hl := law_none (c := c) (s := s) (B := B) (t := t) h h2
 cases m <;> first | exact hl | skip
 rename_i kd a
 have := hd kd a rfl
 exact lv_none (by omega) (by omega) (fun _ => by omega)
section
variable {c : Cfg} {s : Wd} {B : Nat → Nat} {id : Nat}
theorem ev_bg {n : Nat} {st : TSt} {ev : Ev} (h : ev.bg ≠ 0) : (evStep n st ev).bg = ev.bg := by
 unfold evStep
 split <;> simp only [if_neg h]
theorem tstep_word (hr : c.right) (hst : Str c s) (ho : OwnI c s) (hid : (id : Int) < c.T) (i : Nat) :
  (∀ kd : Nat, kd ≤ 1 → St.anyW (upd s.M (tstep c id s.M (s.th id)).1.1 (tstep c id s.M (s.th id)).1.2 (.status i)) (kd : Int) = true →
   sG (upd s.M (tstep c id s.M (s.th id)).1.1 (tstep c id s.M (s.th id)).1.2) i = sG s.M i ∧ (St.anyW (s.M (.status i)) (kd : Int) = true ∨ ∃ m, s.th id = .work m ∧ LaysB s.M m i kd)) ∧
  (sS (upd s.M (tstep c id s.M (s.th id)).1.1 (tstep c id s.M (s.th id)).1.2) i = 4 → sG (upd s.M (tstep c id s.M (s.th id)).1.1 (tstep c id s.M (s.th id)).1.2) i = sG s.M i ∧ (sS s.M i = 4 ∨ sS s.M i = 3)) ∧
  (sS (upd s.M (tstep c id s.M (s.th id)).1.1 (tstep c id s.M (s.th id)).1.2) i = 2 → sG (upd s.M (tstep c id s.M (s.th id)).1.1 (tstep c id s.M (s.th id)).1.2) i = sG s.M i ∧ (sS s.M i = 2 ∨ ∃ w q, s.th id = .work (.oStart i w q))) ∧
  (mid (sS s.M i) → sG (upd s.M (tstep c id s.M (s.th id)).1.1 (tstep c id s.M (s.th id)).1.2) i = sG s.M i) := by
 have far : ∀ {sp : Spot} {v : Nat}, sp ≠ .status i → upd s.M sp v (.status i) = s.M (.status i) := fun hne => upd_ne _ _ (Ne.symm hne)
 have eq : ∀ {M' : Mm}, M' (.status i) = s.M (.status i) → (∀ kd : Nat, kd ≤ 1 → St.anyW (M' (.status i)) (kd : Int) = true → sG M' i = sG s.M i ∧ (St.anyW (s.M (.status i)) (kd : Int) = true ∨ ∃ m, s.th id = .work m ∧ LaysB s.M m i kd)) ∧
   (sS M' i = 4 → sG M' i = sG s.M i ∧ (sS s.M i = 4 ∨ sS s.M i = 3)) ∧ (sS M' i = 2 → sG M' i = sG s.M i ∧ (sS s.M i = 2 ∨ ∃ w q, s.th id = .work (.oStart i w q))) ∧ (mid (sS s.M i) → sG M' i = sG s.M i) := by
  intro M' e
  have e1 : sG M' i = sG s.M i := by simp only [sG, e]
  have e2 : sS M' i = sS s.M i := by simp only [sS, e]
  rw [e, e1, e2]
  exact ⟨fun kd _ h => ⟨rfl, .inl h⟩, fun h => ⟨rfl, .inl h⟩, fun h => ⟨rfl, .inl h⟩, fun _ => rfl⟩
 have hm := hst.tok id hid
 have hw := hst.wd id hid
 have h0 := ho.own id hid
 cases hth : s.th id with
 | idle a => rw [hth] at eq; exact eq (by simp only [tstep, upd_ld])
 | pinLoad m => rw [hth] at eq; exact eq (by simp only [tstep, upd_ld])
 | pinLay e m => rw [hth] at eq; exact eq (far (by intro e; cases e))
 | leave kd a => rw [hth] at eq; exact eq (far (by intro e; cases e))
 | work m =>
  rw [hth] at hm hw h0
  have W := step_word (M := s.M) (id := id) hr m hm.1 hw i
  have C := (step_clear hr m hm.1 hw h0 i).2
  by_cases hf : ∃ h, m = .sFree h ∧ sl h = i
  ·obtain ⟨x, rfl, rfl⟩ := hf
   have k := tk_of (c := c) (h := x) hm.1
   have hg := gn_word (x / 16 + 1) (by omega)
   have e : (upd s.M (tstep c id s.M (.work (.sFree x))).1.1 (tstep c id s.M (.work (.sFree x))).1.2) (.status (sl x)) = St.wordN (x / 16 + 1) 0 false false false 0 0 := upd_at _ _ _
   refine ⟨fun kd hkd h => ?_, fun h => ?_, fun h => ?_, fun h => ?_⟩
   ·rw [e, hg.2.2.2 kd hkd] at h; cases h
   ·simp only [sS, e, hg.1] at h; cases h
   ·simp only [sS, e, hg.1] at h; cases h
   ·have : sS s.M (sl x) = 7 := h0.2.2
    unfold mid at h; omega
  ·have C' : sG (upd s.M (mstep c id s.M m).1.1 (mstep c id s.M m).1.2) i = sG s.M i := by
    rcases C with C | C
    ·exact C
    ·exact (hf C).elim
   refine ⟨fun kd hkd h => ⟨C', ?_⟩, fun h => ⟨C', W.2.1 h⟩, fun h => ⟨C', ?_⟩, fun _ => C'⟩
   ·rcases W.1 kd hkd h with h1 | h1
    ·exact .inl h1
    ·exact .inr ⟨m, rfl, h1⟩
   ·rcases W.2.2 h with h1 | ⟨w, q, h1⟩
    ·exact .inl h1
    ·exact .inr ⟨w, q, by rw [h1]⟩
theorem tstep_num (hst : Str c s) (hid : (id : Int) < c.T) (i : Nat) :
  upd s.M (tstep c id s.M (s.th id)).1.1 (tstep c id s.M (s.th id)).1.2 (.number i) = s.M (.number i) ∨ s.M (.number i) = 0 ∨
   ∃ h, s.th id = .work (.sNought h) ∧ sl h = i ∧ upd s.M (tstep c id s.M (s.th id)).1.1 (tstep c id s.M (s.th id)).1.2 (.number i) = 0 := by
 have far : ∀ {sp : Spot} {v : Nat}, sp ≠ .number i → upd s.M sp v (.number i) = s.M (.number i) := fun hne => upd_ne _ _ (Ne.symm hne)
 cases hth : s.th id with
 | idle a => left; simp only [tstep, upd_ld]
 | pinLoad m => left; simp only [tstep, upd_ld]
 | pinLay e m => exact .inl (far (by intro e; cases e))
 | leave kd a => exact .inl (far (by intro e; cases e))
 | work m =>
  rcases step_num (c := c) (id := id) (M := s.M) m i with e | ⟨e, _⟩ | ⟨x, rfl, e2, e3⟩
  ·exact .inl e
  ·exact .inr (.inl e)
  ·exact .inr (.inr ⟨x, rfl, e2, e3⟩)
theorem tstep_snap (i : Nat) :
  upd s.M (tstep c id s.M (s.th id)).1.1 (tstep c id s.M (s.th id)).1.2 (.snapshot i) = s.M (.snapshot i) ∨ ∃ w q, s.th id = .work (.oNote i w q) := by
 have far : ∀ {sp : Spot} {v : Nat}, sp ≠ .snapshot i → upd s.M sp v (.snapshot i) = s.M (.snapshot i) := fun hne => upd_ne _ _ (Ne.symm hne)
 cases hth : s.th id with
 | idle a => left; simp only [tstep, upd_ld]
 | pinLoad m => left; simp only [tstep, upd_ld]
 | pinLay e m => exact .inl (far (by intro e; cases e))
 | leave kd a => exact .inl (far (by intro e; cases e))
 | work m =>
  rcases step_snap (c := c) (id := id) (M := s.M) m i with e | ⟨w, q, e, _⟩
  ·exact .inl e
  ·exact .inr ⟨w, q, by rw [e]⟩
theorem birth_own (hr : c.right) (hst : Str c s) (hid : (id : Int) < c.T) {i g : Nat} (hi : i < 12) (h : sS s.M i ≠ 0) : bStep s id B (16 * g + i + 1) = B (16 * g + i + 1) := by
 refine bStep_ne fun j w e e2 h3 => ?_
 obtain ⟨h0, h1⟩ := taken_slot hst hid e e2
 have hj : j < 12 := by obtain ⟨a1, a2, a3, a4, _⟩ := hr; omega
 unfold cur at h3
 have : i = j := by omega
 subst this
 exact h h0
theorem ev_other (hst : Str c s) (hid : (id : Int) < c.T) (hi : isIdle (s.th id) = false) {t : Nat} (ht : (t : Int) < c.T) (hti : isIdle (s.th t) = false) (hne : t ≠ id) {n : Nat} {st' : TSt} {ev' : Ev} (h : (s.evs.modify (s.at_ id) (evStep n st'))[s.at_ t]? = some ev') : s.evs[s.at_ t]? = some ev' := by
 obtain ⟨ev, h1, ⟨_, rfl⟩ | ⟨h2, _, _, h5⟩⟩ := ev_from hst hid hi h
 ·exact h1
 ·obtain ⟨ev2, g1, _, g3⟩ := hst.at_ t ht hti
  rw [h1] at g1; cases g1
  rw [h5] at g3; exact (hne g3.symm).elim
theorem law_step (hr : c.right) (hR : Reach c s) (hl : LawI c s B) (hid : (id : Int) < c.T) (hn : s.n < 1000000000) : ∃ B', LawI c (wstep c s id).2 B' := by
 by_cases hi' : isIdle (s.th id) = true
 ·refine ⟨B, ?_⟩
  unfold wstep; rw [if_pos hi']; exact hl
 have hi : isIdle (s.th id) = false := by simpa using hi'
 refine ⟨bStep s id B, ?_⟩
 have hst := reach_str hr hR
 have ho := reach_own hr hR
 have hmk := reach_mk hr hR
 have hp := reach_pin hr hR hn
 have hnum := reach_num hr hR
 have hst' := reach_str hr (Reach.step id hid hR)
 have L := later_step hr hst ho hl.bn hid hi
 have W := fun i => tstep_word (id := id) hr hst ho hid i
 have N := fun i => tstep_num (id := id) hst hid i
 have S := fun i => tstep_snap (c := c) (s := s) (id := id) i
 have s12 : ∀ {i : Nat}, (i : Int) < c.S → i < 12 := by
  obtain ⟨a1, a2, a3, a4, _⟩ := hr
  intro i h; omega
 have hbs : ∀ a, bStep s id B a ≤ s.n + 1 ∧ B a ≤ bStep s id B a := bStep_le hl.bn
 have hgen : ∀ {t : Nat}, (t : Int) < c.T → ∀ {x : Nat}, holdT (s.th t) x → sG (upd s.M (tstep c id s.M (s.th id)).1.1 (tstep c id s.M (s.th id)).1.2) x = sG s.M x := fun ht _ hx => hold_gen hr hst ho hp hid ht hx
 have hmkS := fun (κ kd i : Nat) (hk : kd ≤ 1) => tstep_mk (M := s.M) (κ := κ) (kd := kd) (i := i) hr (s.th id) (hst.tok id hid) hk
 have T := evs_step (c := c) (s := s) (id := id) hi
 have hN4 : ∀ b q, bStep s id B b = B b → n4q s B b q → n4q (wstep c s id).2 (bStep s id B) b q := by
  intro b q e h
  refine n4q_later L hnum (fun j h4 => ?_) (fun j => ?_) e h
  ·rw [T] at h4 ⊢; exact (W j).2.1 h4
  ·rw [T]
   rcases N j with h | h | ⟨_, _, _, h⟩
   ·exact .inl h
   ·exact .inr (.inl h)
   ·exact .inr (.inr h)
 -- the own step
 have hA : ∀ m, s.th id = .work m → At c s B id m (wstep c s id).2 (bStep s id B) := by
  intro m hth
  refine ⟨hr, hst, ho, hmk, hp, hnum, hl, hid, hth, ?_, ?_, ?_, rfl, hst', L, fun ev' h => ?_, hN4⟩
  ·rw [T, hth]; rfl
  ·rw [T]; simp only [setF_same]; rw [hth]; rfl
  ·rw [T]
  ·rw [T] at h
   obtain ⟨ev, h1, ⟨h2, _⟩ | ⟨_, rfl, h4, h5⟩⟩ := ev_from hst hid hi h
   ·exact (h2 rfl).elim
   ·obtain ⟨r1, r2, r3, r4⟩ := hst.run _ ev h1 h4
    rw [h5, hth] at r3 r4
    exact ⟨ev, h1, ev_bg (r4 rfl), (ev_h _ _ _).1, (ev_h _ _ _).2.2.1, r3⟩
 -- the threads
 have hT : ∀ t : Nat, (t : Int) < c.T → lawT c (wstep c s id).2 (bStep s id B) t ((wstep c s id).2.th t) := by
  intro t ht
  by_cases htid : t = id
  ·subst htid
   cases hth : s.th t with
   | idle a => rw [hth] at hi; cases hi
   | work m =>
    have A := hA m hth
    rw [A.th]; exact own_law A
   | pinLoad m =>
    have e : (wstep c s t).2.th t = .pinLay (s.M .epoch) m := by rw [T]; simp only [setF_same]; rw [hth]; rfl
    rw [e]
    have := hl.th t ht
    rw [hth] at this; exact this
   | pinLay x m =>
    have e : (wstep c s t).2.th t = goesOn m := by rw [T]; simp only [setF_same]; rw [hth]; rfl
    rw [e]
    have h1 := hl.th t ht
    have h2 := ho.own t ht
    rw [hth] at h1 h2
    exact lawB_goesOn h2 h1 (hnum.pinD t m ht (.inr ⟨x, hth⟩))
   | leave kd a =>
    have e : (wstep c s t).2.th t = .idle a := by rw [T]; simp only [setF_same]; rw [hth]; rfl
    rw [e]; trivial
  ·have e : (wstep c s id).2.th t = s.th t := by rw [T]; exact setF_other _ _ htid
   rw [e]
   have h1 := hl.th t ht
   have hg := fun x => hgen ht (x := x)
   cases hth : s.th t with
   | idle a => trivial
   | pinLoad m => rw [hth] at h1; exact h1
   | pinLay x m => rw [hth] at h1; exact h1
   | leave kd a =>
    rw [hth] at h1
    refine lvF_keep L (hbs a.h).2 (fun ev' h => ?_) h1
    rw [T] at h
    exact ⟨ev', ev_other hst hid hi ht (by rw [hth]; rfl) htid h, rfl, rfl, rfl⟩
   | work m =>
    rw [hth] at h1 hg
    have hmt := hst.tok t ht
    have hot := ho.own t ht
    rw [hth] at hmt hot
    refine lawM_keep ⟨L, fun i hs => ?_, fun x hx => ?_, fun x hx hne => ?_, fun i hs g => ?_, fun ev' h => ?_, hN4, fun h e1 e2 => own_born hot e1 e2⟩ h1
    ·rw [T]
     rcases S i with e | ⟨w, q, e⟩
     ·exact e
     ·exact (ho.uniq t id ht hid htid i (by rw [hth]; exact hs) (by rw [e]; rfl)).elim
    ·rw [T]; exact hg x hx
    ·rw [T]
     rcases N x with e | e | ⟨y, e1, e2, _⟩
     ·exact e
     ·exact (hne e).elim
     ·exact (hp.hF id y hid (.inl e1) t ht htid (by rw [e2, hth]; exact hx)).elim
    ·refine birth_own hr hst hid (s12 (slot_lt hmt.1 hs)) ?_
     rcases own_busy hot hs with ⟨_, h2⟩ | h2 <;> omega
    ·rw [T] at h
     exact ⟨ev', ev_other hst hid hi ht (by rw [hth]; rfl) htid h, rfl⟩
 refine ⟨fun a => ?_, fun j ev' hj hd hk he => ?_, fun i hi12 h2 => ?_, fun i kd hiS hkd ha => ?_, fun κ kd i hκ hkd hm => ?_, hT, fun j ev' hj hd => ?_⟩
 ·rw [T]; exact (hbs a).1
 ·rw [T] at hj
  obtain ⟨ev, h1, ⟨_, rfl⟩ | ⟨h2, rfl, h4, h5⟩⟩ := ev_from hst hid hi hj
  ·exact Nat.le_trans (hl.bg j _ h1 hd hk he) (hbs _).2
  ·cases hs' : isIdle (tstep c id s.M (s.th id)).2 with
   | false => rw [(ev_dn hs').1, h4] at hd; cases hd
   | true =>
    generalize hst2 : (tstep c id s.M (s.th id)).2 = st' at hs' hd hk he ⊢
    cases st' with
    | idle a =>
     obtain ⟨kd, e1⟩ := idle_step hi hst2
     obtain ⟨r1, r2, r3, r4⟩ := hst.run j ev h1 h4
     rw [h5, e1] at r3 r4
     have hkd : kd = .o := by
      refine Kd.num_inj (q := .o) ?_
      rw [(ev_h _ _ _).2.1] at hk
      show kd.num = 1
      rw [← hk]; exact r3.symm
     have hlv := hl.th id hid
     rw [e1] at hlv
     have h6 := (hlv ev (by rw [← h2]; exact h1)).2.2 hkd he
     rw [ev_bg (r4 rfl)]
     exact Nat.le_trans h6 (hbs _).2
    | _ => cases hs'
 ·rw [T] at h2
  obtain ⟨hg, h3⟩ := (W i).2.2.1 h2
  have hc : cur (wstep c s id).2.M i = cur s.M i := by rw [T]; exact cur_keep hg
  rw [hc]
  rcases h3 with h3 | ⟨w, q, h3⟩
  ·have hsn : (wstep c s id).2.M (.snapshot i) = s.M (.snapshot i) := by
    rw [T]
    rcases S i with e | ⟨w, q, e⟩
    ·exact e
    ·have := ho.own id hid
     rw [e] at this
     have h5 : sS s.M i = 1 := this.1
     omega
   rw [hsn]
   exact hN4 _ _ ((L.born _ ((born_cur hi12).2 (by omega))).2) (hl.n4 i hi12 h3)
  ·have A := hA _ h3
   have f := A.law
   have hog := A.own
   have e1 : cur s.M i = 16 * gnOf w + i + 1 := by unfold cur; rw [hog.2]
   rw [e1, A.snap (by intro _ _ _ e; cases e) i, f.2.2]
   exact hN4 _ _ (A.birth (by intro _ _ e; cases e) _) f.2.1
 ·have hMe : (wstep c s id).2.M = upd s.M (tstep c id s.M (s.th id)).1.1 (tstep c id s.M (s.th id)).1.2 := by rw [T]
  rw [hMe] at ha
  obtain ⟨hg, h3⟩ := (W i).1 kd hkd ha
  have hc : cur (wstep c s id).2.M i = cur s.M i := by rw [hMe]; exact cur_keep hg
  rw [hc]
  rcases h3 with h3 | ⟨m, hth, h3⟩
  ·exact ((hl.any i kd hiS hkd h3).later L).mono L.n
  ·have A := hA m hth
   rcases h3 with ⟨h, k, n, r, w, rfl, e1, e2⟩ | ⟨h, k, n, r, w, rfl, e1, e2⟩ | ⟨h, k, n, j, r, w, rfl, e0, e1, e2⟩ | ⟨h, k, n, j, r, w, rfl, e0, e1, e2⟩ | ⟨w, q, rfl, e1⟩
   ·have ho2 : own2 s.M h (· = 2) := A.own
    have f := A.law
    have h1 := (A.one A.mok.1).1
    have hJ := jstep_law (p := .lay w) (b := sl h) (side := 1) A.hr A.hnum A.hl (kd := 0) rfl (by omega) h1 (A.one A.mok.1).2 ho2 f.1 hiS A.wd f.2.2
    have hR2 : (jstep s.M i 1 (sl h) n (.lay w)).2 = .laid := by simp only [jstep]; rw [if_pos e1]
    have hth2 := A.th
    simp only [mstep] at hth2
    rw [hR2] at hJ hth2
    have hC := (A.conf h1 ho2 hiS hJ (A.gen (List.mem_cons_self ..)) (f.2.1 i (List.mem_cons_self ..)) hth2 trivial).1 rfl (fun _ _ _ e => e)
    exact .inr ⟨e2, h, hC⟩
   ·have ho2 : own2 s.M h (· = 2) := A.own
    have f := A.law
    have h1 := (A.one A.mok.1).1
    have hJ := jstep_law (p := .lay w) (b := sl h) (side := 0) A.hr A.hnum A.hl (kd := 1) rfl (by omega) h1 (A.one A.mok.1).2 ho2 f.1 hiS A.wd f.2.2
    have hR2 : (jstep s.M i 0 (sl h) n (.lay w)).2 = .laid := by simp only [jstep]; rw [if_pos e1]
    have hth2 := A.th
    simp only [mstep] at hth2
    rw [hR2] at hJ hth2
    have hC := (A.conf h1 ho2 hiS hJ (A.gen (List.mem_cons_self ..)) (f.2.1 i (List.mem_cons_self ..)) hth2 trivial).2 rfl (fun _ _ _ e => e)
    exact .inl ⟨e2, h, hC⟩
   ·have ho2 : own2 s.M h (· = 2) := A.own
    have h1 := (A.one A.mok.1).1
    rw [← e0, cur_own h1 ho2.2.1, e2]
    exact (A.law.2.2.later L).mono L.n
   ·have ho2 : own2 s.M h (· = 2) := A.own
    have h1 := (A.one A.mok.1).1
    rw [← e0, cur_own h1 ho2.2.1, e2]
    exact (A.law.2.2.later L).mono L.n
   ·have := A.law.1.1 kd hkd
    rw [this] at e1; cases e1
 ·have hMe : (wstep c s id).2.M = upd s.M (tstep c id s.M (s.th id)).1.1 (tstep c id s.M (s.th id)).1.2 := by rw [T]
  rw [hMe] at hm
  rcases hmkS κ kd i hkd hm with h1 | ⟨h1, m, h2, h3⟩
  ·have hmid := hmk.at_ κ kd i hκ hkd h1
   have hc : cur (wstep c s id).2.M i = cur s.M i := by rw [hMe]; exact cur_keep ((W i).2.2.2 hmid)
   rw [hc]
   exact ((hl.mrk κ kd i hκ hkd h1).later L).mono L.n
  ·have A := hA m h2
   have hth2 := A.th
   rcases h3 with ⟨h, n, w, rfl, e1, rfl⟩ | ⟨h, n, w, rfl, e1, rfl⟩
   ·have ho2 : own2 s.M h (· = 2) := A.own
    rw [h2] at h1
    cases h1
    have hc : cur (wstep c s id).2.M (sl h) = cur s.M (sl h) := by rw [hMe]; exact cur_keep ((W (sl h)).2.2.2 ⟨by rw [ho2.2.2]; exact Nat.le_refl _, by rw [ho2.2.2]; omega⟩)
    rw [hc, cur_own (A.one A.mok.1).1 ho2.2.1]
    simp only [mstep, if_pos e1, rFound] at hth2
    cases hr2 : otherN w 1 (sl h) with
    | nil => rw [hr2] at hth2; exact own_gd hst' hid hth2 (.inl rfl) (fun _ _ _ e => e)
    | cons j r => rw [hr2] at hth2; exact own_gd hst' hid hth2 trivial (fun _ _ _ e => e)
   ·have ho2 : own2 s.M h (· = 2) := A.own
    rw [h2] at h1
    cases h1
    have hc : cur (wstep c s id).2.M (sl h) = cur s.M (sl h) := by rw [hMe]; exact cur_keep ((W (sl h)).2.2.2 ⟨by rw [ho2.2.2]; exact Nat.le_refl _, by rw [ho2.2.2]; omega⟩)
    rw [hc, cur_own (A.one A.mok.1).1 ho2.2.1]
    simp only [mstep, if_pos e1, wFound] at hth2
    cases hr2 : otherN w 0 (sl h) with
    | nil => rw [hr2] at hth2; exact own_gd hst' hid hth2 (.inl rfl) (fun _ _ _ e => e)
    | cons j r => rw [hr2] at hth2; exact own_gd hst' hid hth2 trivial (fun _ _ _ e => e)
 ·rw [T] at hj
  obtain ⟨ev, h1, ⟨_, rfl⟩ | ⟨h2, rfl, h4, h5⟩⟩ := ev_from hst hid hi hj
  ·obtain ⟨f7, f8⟩ := hl.fin j _ h1 hd
   refine ⟨fun e => (f7 e).later L, fun e => ?_⟩
   obtain ⟨κ, g1, g2⟩ := f8 e
   exact ⟨κ, g1, g2.later L⟩
  ·rw [(ev_h _ _ _).1, (ev_h _ _ _).2.2.1]
   cases hs' : isIdle (tstep c id s.M (s.th id)).2 with
   | false => rw [(ev_dn hs').1, h4] at hd; cases hd
   | true =>
    generalize hst2 : (tstep c id s.M (s.th id)).2 = st' at hs' hd ⊢
    cases st' with
    | idle a =>
     obtain ⟨kd, e1⟩ := idle_step hi hst2
     have hlv := hl.th id hid
     rw [e1] at hlv
     obtain ⟨f7, f8, _⟩ := hlv ev (by rw [← h2]; exact h1)
     refine ⟨fun e => ((f7 e).later L).mono (Nat.le_succ _), fun e => ?_⟩
     obtain ⟨κ, g1, g2⟩ := f8 e
     exact ⟨κ, g1, (g2.later L).mono (Nat.le_succ _)⟩
    | _ => cases hs'
theorem law_start (hst : Str c s) (hown : ∀ t : Nat, (t : Int) < c.T → ownT s.M (s.th t)) (hl : LawI c s B) (kd : Int) (x : Nat) (k : Int) : LawI c (wstart c s id kd x k).2 B := by
 unfold wstart
 cases hs : s.th id with
 | idle a =>
  by_cases hk : 1 ≤ kd ∧ kd ≤ 6
  ·have e : tstart c kd x k (.idle a) = (true, .pinLoad (begins c kd x k)) := tstart_yes _ _ _ _ _ hk.1 hk.2
   rw [e]
   have hnb : ∀ i w, begins c kd x k ≠ .oTake i w := by
    intro i w
    unfold begins
    repeat' split
    all_goals (intro e; cases e)
   have hlt : ∀ {j : Nat} {ev : Ev}, s.evs[j]? = some ev → j < s.evs.length := fun h => (List.getElem?_eq_some_iff.1 h).1
   have app : ∀ {j : Nat} {ev : Ev} (y : Ev), s.evs[j]? = some ev → (s.evs ++ [y])[j]? = some ev := by
    intro j ev y h
    rw [List.getElem?_append_left (hlt h)]; exact h
   have new : ∀ {j : Nat} {ev y : Ev}, (s.evs ++ [y])[j]? = some ev → s.evs[j]? = some ev ∨ ev = y := by
    intro j ev y h
    rw [List.getElem?_append] at h
    split at h
    ·exact .inl h
    ·right
     cases hjj : j - s.evs.length with
     | zero => rw [hjj] at h; simp at h; exact h.symm
     | succ n => rw [hjj] at h; simp at h
   have hth : ∀ {t : Nat}, t ≠ id → setF s.th id (TSt.pinLoad (begins c kd x k)) t = s.th t := fun h => setF_other _ _ h
   have hidle : ∀ (j : Nat) (ev : Ev), s.evs[j]? = some ev → ev.dn = false → ev.thr ≠ id := by
    intro j ev h1 h2 h3
    have := (hst.run j ev h1 h2).2.1
    rw [h3, hs] at this
    cases this
   have L : Later s B ({ s with th := setF s.th id (TSt.pinLoad (begins c kd x k)), at_ := setF s.at_ id s.evs.length, evs := s.evs ++ [⟨id, kd, x, k, ⟨0, 0, 0⟩, 0, 0, false⟩] } : Wd) B := by
    refine ⟨Nat.le_refl _, fun a h => ⟨h, rfl⟩, hl.bn, fun j ev h => ⟨ev, app _ h, rfl, rfl, rfl, rfl, fun _ => rfl, fun _ => rfl, fun hd hg => ⟨fun h => (by rw [hd] at h; cases h), fun _ => ?_⟩⟩, fun j ev' h he => ?_⟩
    ·simp only; rw [hth (hidle j ev h hd)]; exact hg
    ·rcases new h with h1 | rfl
     ·exact .inl h1
     ·have := he.1; cases this
   have hat : ∀ {t : Nat}, (t : Int) < c.T → t ≠ id → isIdle (s.th t) = false → ∀ ev' : Ev, (s.evs ++ [⟨id, kd, x, k, ⟨0, 0, 0⟩, 0, 0, false⟩])[setF s.at_ id s.evs.length t]? = some ev' → s.evs[s.at_ t]? = some ev' := by
    intro t ht hne hti ev' h
    rw [setF_other _ _ hne] at h
    obtain ⟨ev2, g1, _⟩ := hst.at_ t ht hti
    rw [app _ g1] at h
    rw [g1]; exact h
   have hN4 : ∀ b q, n4q s B b q → n4q ({ s with th := setF s.th id (TSt.pinLoad (begins c kd x k)), at_ := setF s.at_ id s.evs.length, evs := s.evs ++ [⟨id, kd, x, k, ⟨0, 0, 0⟩, 0, 0, false⟩] } : Wd) B b q := by
    intro b q h j hj h4 hq i ev h1 h2 h3
    rcases new h1 with h5 | rfl
    ·exact h j hj h4 hq i ev h5 h2 h3
    ·have := h2.1; cases this
   refine ⟨hl.bn, fun j ev hj hd => ?_, fun i hi h2 => hN4 _ _ (hl.n4 i hi h2), fun i kd' hi hkd ha => (hl.any i kd' hi hkd ha).later L, fun κ kd' i hκ hkd hm => (hl.mrk κ kd' i hκ hkd hm).later L, fun t ht => ?_, fun j ev hj hd => ?_⟩
   ·rcases new hj with h1 | rfl
    ·exact hl.bg j ev h1 hd
    ·cases hd
   ·by_cases htid : t = id
    ·subst htid
     simp only [setF_same]
     exact hnb
    ·simp only
     rw [hth htid]
     have h1 := hl.th t ht
     have h2 := hat ht htid
     cases hth2 : s.th t with
     | idle a => trivial
     | pinLoad m => rw [hth2] at h1; exact h1
     | pinLay x m => rw [hth2] at h1; exact h1
     | leave kd a => rw [hth2] at h1 h2; exact lvF_keep L (Nat.le_refl _) (fun ev' h => ⟨ev', h2 rfl ev' h, rfl, rfl, rfl⟩) h1
     | work m =>
      rw [hth2] at h1 h2
      have hot := hown t ht
      rw [hth2] at hot
      exact lawM_keep ⟨L, fun _ _ => rfl, fun _ _ => rfl, fun _ _ _ => rfl, fun _ _ _ => rfl, fun ev' h => ⟨ev', h2 rfl ev' h, rfl⟩, fun b q _ h => hN4 b q h, fun h e1 e2 => own_born hot e1 e2⟩ h1
   ·rcases new hj with h1 | rfl
    ·obtain ⟨f7, f8⟩ := hl.fin j _ h1 hd
     refine ⟨fun e => (f7 e).later L, fun e => ?_⟩
     obtain ⟨κ, g1, g2⟩ := f8 e
     exact ⟨κ, g1, g2.later L⟩
    ·cases hd
  ·have e : tstart c kd x k (.idle a) = (false, .idle a) := if_neg hk
   rw [e]
   exact hl
 | _ => exact hl
end
theorem reach_law {c : Cfg} {s : Wd} (hr : c.right) (h : Reach c s) (hn : s.n < 1000000000) : ∃ B, LawI c s B := by
 induction h with
 | init =>
  refine ⟨fun _ => 0, fun a => Nat.le_refl _, ?_, ?_, ?_, ?_, fun t _ => trivial, ?_⟩
  ·intro j ev h; simp [w0] at h
  ·intro i _ h
   have : sS w0.M i = 0 := by simp only [sS, w0]; decide
   omega
  ·intro i kd _ hk h
   rw [any_iff _ _ hk] at h
   simp [w0] at h
  ·intro κ kd i _ hk h
   unfold mk at h
   by_cases h12 : i < 12
   ·rw [hasM_bit _ _ _ hk h12] at h; simp [w0] at h
   ·rw [hasM_far _ _ _ (by omega)] at h; cases h
  ·intro j ev h; simp [w0] at h
 | @start s id kd x k hid hh hs ih =>
  obtain ⟨B, hl⟩ := ih (by rw [wstart_n] at hn; exact hn)
  exact ⟨B, law_start (reach_str hr hs) (reach_own hr hs).own hl kd x k⟩
 | @step s id hid hs ih =>
  have h1 := wstep_n (c := c) (s := s) (id := id)
  obtain ⟨B, hl⟩ := ih (by omega)
  exact law_step hr hs hl hid (by omega)
end Go.Proofs.YtfinmiakbpmjiaaGreat.Um
