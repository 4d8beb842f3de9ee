/-
  The plain world, and what is kept in it.
-/
import Derived.Test.YtfinmiakbpmjiaaGreatUmI
set_option linter.unusedSimpArgs false
set_option linter.unusedVariables false
namespace Go.Proofs.YtfinmiakbpmjiaaGreat.Um
open Go Go.RowKit Go.Proofs.YtfinmiakbpmjiaaGreat Go.Proofs.YtfinmiakbpmjiaaGreat.Ax
structure Ev where
 thr : Nat
 kd : Int
 h : Nat
 k : Int
 a : Ans
 bg : Nat
 en : Nat
 dn : Bool
structure Wd where
 M : Mm
 n : Nat
 th : Nat → TSt
 at_ : Nat → Nat
 evs : List Ev
def setF {α : Type} (f : Nat → α) (k : Nat) (x : α) : Nat → α := fun j => if j = k then x else f j
theorem setF_same {α : Type} (f : Nat → α) (k : Nat) (x : α) : setF f k x k = x := if_pos rfl
theorem setF_other {α : Type} (f : Nat → α) {k j : Nat} (x : α) (h : j ≠ k) : setF f k x j = f j := if_neg h
def wstart (c : Cfg) (s : Wd) (id : Nat) (kd : Int) (h : Nat) (k : Int) : Bool × Wd :=
 match tstart c kd h k (s.th id) with
 | (true, st) => (true, { s with th := setF s.th id st, at_ := setF s.at_ id s.evs.length, evs := s.evs ++ [⟨id, kd, h, k, ⟨0, 0, 0⟩, 0, 0, false⟩] })
 | (false, _) => (false, s)
def evStep (n : Nat) (st : TSt) (ev : Ev) : Ev :=
 match st with
 | .idle a => { ev with bg := if ev.bg = 0 then n else ev.bg, a := a, en := n, dn := true }
 | _ => { ev with bg := if ev.bg = 0 then n else ev.bg }
def isIdle : TSt → Bool
 | .idle _ => true
 | _ => false
def wstep (c : Cfg) (s : Wd) (id : Nat) : Bool × Wd :=
 if isIdle (s.th id) then (false, s)
 else (true, ⟨upd s.M (tstep c id s.M (s.th id)).1.1 (tstep c id s.M (s.th id)).1.2, s.n + 1, setF s.th id (tstep c id s.M (s.th id)).2, s.at_, s.evs.modify (s.at_ id) (evStep (s.n + 1) (tstep c id s.M (s.th id)).2)⟩)
def w0 : Wd := ⟨fun _ => 0, 0, fun _ => .idle ⟨0, 0, 0⟩, fun _ => 0, []⟩
inductive Reach (c : Cfg) : Wd → Prop
 | init : Reach c w0
 | start {s : Wd} (id : Nat) (kd : Int) (h : Nat) (k : Int) (hid : (id : Int) < c.T) (hh : h < 18446744073709551616) : Reach c s → Reach c (wstart c s id kd h k).2
 | step {s : Wd} (id : Nat) (hid : (id : Int) < c.T) : Reach c s → Reach c (wstep c s id).2
def eWd (h : Nat) (ok : Nat → Bool) : EP → Prop
 | .look => True
 | .swap s => gnOf s = h / 16 ∧ stOf s ≠ 0 ∧ stOf s ≠ 1 ∧ bz s = false ∧ ok (stOf s) = true
def jWd : JP → Prop
 | .look => True
 | .number s => stOf s = 4
 | .lay s => stOf s = 2 ∨ stOf s = 3 ∨ stOf s = 4
def hWd : HP → Prop
 | .lay s => stOf s = 3
 | _ => True
def is2 : Nat → Bool := (· == 2)
def ansOK : Kd → Int → Prop
 | .o, e => e = 0 ∨ e = 6
 | .r, e => e = 0 ∨ e = 2 ∨ e = 3 ∨ e = 4 ∨ e = 5 ∨ e = 7
 | .w, e => e = 0 ∨ e = 2 ∨ e = 3 ∨ e = 4 ∨ e = 5 ∨ e = 7 ∨ e = 8
 | .c, e => e = 0 ∨ e = 2 ∨ e = 3 ∨ e = 4 ∨ e = 6 ∨ e = 7
 | .a, e => e = 0 ∨ e = 2 ∨ e = 3 ∨ e = 4
 | .s, e => e = 0 ∨ e = 2 ∨ e = 3 ∨ e = 4 ∨ e = 9
def wdOK : Mach → Prop
 | .oTake _ s => stOf s = 0
 | .oTally _ s => stOf s = 0
 | .oHelp _ s _ p => stOf s = 0 ∧ hWd p
 | .oNote _ s _ => stOf s = 0
 | .oStart _ s _ => stOf s = 0
 | .rEnter h _ p => eWd h is2 p
 | .rJoin _ _ _ _ _ p => jWd p
 | .rLeave _ _ ab _ e => ab = false ∧ e = 0 ∨ ab = true ∧ e = 7
 | .wEnter h _ p => eWd h is2 p
 | .wJoin _ _ _ _ _ p => jWd p
 | .wLeave _ _ ab _ e => ab = false ∧ e = 0 ∨ ab = true ∧ (e = 7 ∨ e = 8)
 | .cEnter h p => eWd h is2 p
 | .cHelp _ _ p => hWd p
 | .cNote _ w hw p => hWd p
 | .cDoom _ s => St.anyW s 0 = true ∧ St.anyW s 1 = true
 | .cLeave _ ab _ a => ab = false ∧ a.e = 0 ∨ ab = true ∧ a.e = 6
 | .aEnter h p => eWd h is2 p
 | .sEnter h p => eWd h seen4 p
 | .done kd a => ansOK kd a.e
 | _ => True
section
variable {c : Cfg} {M : Mm}
theorem hstep_wd {w : Nat} {p : HP} (h : hWd p) : ∀ p', (hstep M w p).2 = some p' → hWd p' := by
 intro p' e
 cases p with
 | number => cases e; trivial
 | look =>
  cases e
  split
  ·assumption
  ·trivial
 | lay s =>
  cases e
  split <;> trivial
 | settle => cases e
theorem estep_no {h : Nat} {ok : Nat → Bool} {p : EP} {x : Int} (e : (estep M h ok p).2 = .no x) : x = 2 ∨ x = 3 ∨ x = 4 := by
 cases p with
 | look =>
  unfold estep at e
  simp only at e
  repeat' (split at e)
  all_goals (first | (cases e; simp) | cases e)
 | swap s =>
  unfold estep at e
  simp only at e
  split at e <;> cases e
theorem estep_go {h : Nat} {ok : Nat → Bool} {p p' : EP} (e : (estep M h ok p).2 = .go p') : eWd h ok p' := by
 cases p with
 | look =>
  unfold estep at e
  simp only at e
  split at e
  ·cases e
  split at e
  ·cases e
  split at e
  ·cases e
  split at e
  ·cases e
  split at e
  ·rename_i h1 h2 h3 h4 h5
   cases e
   exact ⟨by simpa using h1, h2, h3, by simpa using h4, h5⟩
  ·cases e
 | swap s =>
  unfold estep at e
  simp only at e
  split at e
  ·cases e
  ·cases e; trivial
theorem jjudge_go {s : Nat} {side : Int} {b : Nat} {p : JP} (e : jjudge s side b = .go p) : p = .lay s := by
 unfold jjudge at e
 repeat' (split at e)
 all_goals (first | (cases e; rfl) | cases e)
theorem jstep_wd {j b n : Nat} {side : Int} {p p' : JP} (h : jWd p) (e : (jstep M j side b n p).2 = .go p') : jWd p' := by
 cases p with
 | look =>
  unfold jstep at e
  simp only at e
  split at e
  ·cases e; assumption
  ·split at e
   ·rename_i h4 h23
    rw [jjudge_go e]
    rcases h23 with h | h
    ·exact .inl h
    ·exact .inr (.inl h)
   ·cases e
 | number s =>
  unfold jstep at e
  simp only at e
  split at e
  ·cases e
  ·rw [jjudge_go e]; exact .inr (.inr h)
 | lay s =>
  unfold jstep at e
  simp only at e
  split at e
  ·cases e
  ·cases e; trivial
variable {id : Nat}
theorem rNext_wd {h k n : Nat} (r : List Nat) : wdOK (rNext h k n r) := by
 cases r with
 | nil => exact .inl ⟨rfl, rfl⟩
 | cons j r => trivial
theorem wNext_wd {h k n : Nat} (r : List Nat) : wdOK (wNext h k n r) := by
 cases r with
 | nil => exact .inl ⟨rfl, rfl⟩
 | cons j r => trivial
theorem wGoes_wd {h k n w : Nat} (r : List Nat) : wdOK (wGoes h k n w r) := by
 cases r with
 | nil =>
  simp only [wGoes]
  split
  ·exact wNext_wd _
  ·trivial
 | cons j r => trivial
theorem mstep_wd (m : Mach) (h : wdOK m) : wdOK (mstep c id M m).2 := by
 have no2 : ∀ {x : Int}, x = 2 ∨ x = 3 ∨ x = 4 → ansOK .r x ∧ ansOK .w x ∧ ansOK .c x ∧ ansOK .a x ∧ ansOK .s x := by
  rintro x (rfl | rfl | rfl) <;> simp [ansOK]
 cases m with
 | oLook i =>
  simp only [mstep]
  split
  ·unfold oGoes; split
   ·trivial
   ·exact .inr rfl
  ·rename_i hh; simp only [not_or, Decidable.not_not] at hh; exact hh.1
 | oTake i s =>
  simp only [mstep]
  split
  ·exact h
  ·unfold oGoes; split
   ·trivial
   ·exact .inr rfl
 | oTally i s =>
  simp only [mstep]
  split
  ·exact ⟨h, trivial⟩
  ·exact h
 | oHelp i s w p =>
  simp only [mstep]
  split
  ·rename_i e; exact ⟨h.1, hstep_wd h.2 _ e⟩
  ·exact h.1
 | oNote i s q => exact h
 | oStart i s q => exact .inl rfl
 | rEnter h k p =>
  simp only [mstep]
  split
  ·rename_i e; exact (no2 (estep_no e)).1
  ·rename_i e; exact estep_go e
  ·trivial
 | rSnap h k => trivial
 | rLook h k n =>
  simp only [mstep]
  split
  ·exact rNext_wd _
  ·trivial
 | rMark h k n w =>
  simp only [mstep]
  split
  ·exact rNext_wd _
  ·trivial
 | rJoin h' k n j r p =>
  simp only [mstep]
  split
  ·rename_i e; exact jstep_wd h e
  ·exact rNext_wd _
  ·trivial
  ·exact .inr ⟨rfl, rfl⟩
 | rOwn h' k n j r p =>
  simp only [mstep]
  split
  ·trivial
  ·exact rNext_wd _
 | rLeave h' k ab p e =>
  simp only [mstep]
  split
  ·exact h
  ·rcases h with ⟨_, rfl⟩ | ⟨_, rfl⟩ <;> simp [wdOK, ansOK]
 | wEnter h k p =>
  simp only [mstep]
  split
  ·rename_i e; exact (no2 (estep_no e)).2.1
  ·rename_i e; exact estep_go e
  ·trivial
 | wSnap h k => trivial
 | wLook h k n => exact wGoes_wd _
 | wRival h' k n w j r =>
  simp only [mstep]
  split
  ·exact .inr ⟨rfl, .inr rfl⟩
  ·split
   ·trivial
   ·exact wGoes_wd _
 | wNumber h' k n w j r =>
  simp only [mstep]
  split
  ·exact wGoes_wd _
  ·exact .inr ⟨rfl, .inr rfl⟩
 | wMark h k n w =>
  simp only [mstep]
  split
  ·exact wNext_wd _
  ·trivial
 | wJoin h' k n j r p =>
  simp only [mstep]
  split
  ·rename_i e; exact jstep_wd h e
  ·exact wNext_wd _
  ·trivial
  ·exact .inr ⟨rfl, .inl rfl⟩
 | wOwn h' k n j r p =>
  simp only [mstep]
  split
  ·trivial
  ·exact wNext_wd _
 | wLeave h' k ab p e =>
  simp only [mstep]
  split
  ·exact h
  ·rcases h with ⟨_, rfl⟩ | ⟨_, rfl | rfl⟩ <;> simp [wdOK, ansOK]
 | cEnter h p =>
  simp only [mstep]
  split
  ·rename_i e; exact (no2 (estep_no e)).2.2.1
  ·rename_i e; exact estep_go e
  ·trivial
 | cJudge h =>
  simp only [mstep]
  split
  ·assumption
  ·trivial
 | cDoom h' s =>
  simp only [mstep]
  split
  ·simp [wdOK, ansOK]
  ·trivial
 | cPromise h' s =>
  simp only [mstep]
  split <;> trivial
 | cCount h =>
  simp only [mstep]
  split
  ·trivial
  ·split
   ·exact .inr ⟨rfl, rfl⟩
   ·trivial
 | cHelp h' w p =>
  simp only [mstep]
  split
  ·rename_i e; exact hstep_wd h _ e
  ·trivial
 | cNumber h' w =>
  simp only [mstep]
  split <;> trivial
 | cNote h' w hw p =>
  simp only [mstep]
  split
  ·rename_i e; exact hstep_wd h _ e
  ·exact .inl ⟨rfl, rfl⟩
 | cLeave h' ab p a =>
  simp only [mstep]
  split
  ·exact h
  ·rcases h with ⟨_, e⟩ | ⟨_, e⟩ <;> simp [wdOK, ansOK, e]
 | aEnter h p =>
  simp only [mstep]
  split
  ·rename_i e; exact (no2 (estep_no e)).2.2.2.1
  ·rename_i e; exact estep_go e
  ·trivial
 | aThen h => trivial
 | aLeave h' p =>
  simp only [mstep]
  split
  ·trivial
  ·simp [wdOK, ansOK]
 | sEnter h p =>
  simp only [mstep]
  split
  ·rename_i e; exact (no2 (estep_no e)).2.2.2.2
  ·rename_i e; exact estep_go e
  ·repeat' split
   all_goals trivial
 | sNumber h => simp only [mstep]; unfold sAges; split <;> trivial
 | sAged h' j num sn =>
  cases sn
  ·simp only [mstep]
   repeat' split
   all_goals first | trivial | (unfold sAges; split <;> trivial)
  ·simp only [mstep]
   repeat' split
   all_goals first | trivial | (unfold sAges; split <;> trivial)
 | sDie h => trivial
 | sDead h' w => simp only [mstep]; split <;> trivial
 | sTick h cl => trivial
 | sNote h' cl r => simp only [mstep]; unfold sGraces; split; trivial; unfold sGoes; split <;> trivial
 | sRetired h' cl => simp only [mstep]; unfold sGraces; split; trivial; unfold sGoes; split <;> trivial
 | sGrace h' cl j r =>
  simp only [mstep]
  split
  ·trivial
  ·unfold sGraces; split; trivial; unfold sGoes; split <;> trivial
 | sKeys h' k =>
  simp only [mstep]
  split
  ·unfold sKey; split <;> trivial
  ·trivial
 | sUnmark h' k w =>
  simp only [mstep]
  split
  ·unfold sKey; split <;> trivial
  ·trivial
 | sPast h => simp only [mstep]; unfold sOther; split <;> trivial
 | sOthers h' j n =>
  simp only [mstep]
  split
  ·unfold sOther; split <;> trivial
  ·trivial
 | sPart h' j n w =>
  simp only [mstep]
  split
  ·unfold sOther; split <;> trivial
  ·trivial
 | sClose h => trivial
 | sClosed h' w => simp only [mstep]; split <;> trivial
 | sNought h => trivial
 | sFree h => simp [mstep, wdOK, ansOK]
 | sLater h' p =>
  simp only [mstep]
  split
  ·trivial
  ·simp [wdOK, ansOK]
 | done kd a => exact h
def tWd : TSt → Prop
 | .idle _ => True
 | .pinLoad m => wdOK m
 | .pinLay _ m => wdOK m
 | .work m => wdOK m
 | .leave kd a => ansOK kd a.e
theorem goesOn_wd {m : Mach} (h : wdOK m) : tWd (goesOn m) := by
 cases m <;> exact h
theorem tstep_wd (st : TSt) (h : tWd st) : tWd (tstep c id M st).2 := by
 cases st with
 | idle a => trivial
 | pinLoad m => exact h
 | pinLay e m => exact goesOn_wd h
 | work m => exact goesOn_wd (mstep_wd m h)
 | leave kd a => trivial
theorem begins_wd (kind : Int) (h : Nat) (k : Int) : wdOK (begins c kind h k) := by
 unfold begins
 repeat' split
 all_goals first | trivial | simp [wdOK, ansOK]
end
def Kd.num : Kd → Int
 | .o => 1 | .r => 2 | .w => 3 | .c => 4 | .a => 5 | .s => 6
def opR (kd h k : Int) : Mach → Prop
 | .oLook .. => kd = 1 | .oTake .. => kd = 1 | .oTally .. => kd = 1 | .oHelp .. => kd = 1 | .oNote .. => kd = 1 | .oStart .. => kd = 1
 | .rEnter x y _ => kd = 2 ∧ h = (x : Int) ∧ k = (y : Int)
 | .rSnap x y => kd = 2 ∧ h = (x : Int) ∧ k = (y : Int)
 | .rLook x y _ => kd = 2 ∧ h = (x : Int) ∧ k = (y : Int)
 | .rMark x y _ _ => kd = 2 ∧ h = (x : Int) ∧ k = (y : Int)
 | .rJoin x y _ _ _ _ => kd = 2 ∧ h = (x : Int) ∧ k = (y : Int)
 | .rOwn x y _ _ _ _ => kd = 2 ∧ h = (x : Int) ∧ k = (y : Int)
 | .rLeave x y _ _ _ => kd = 2 ∧ h = (x : Int) ∧ k = (y : Int)
 | .wEnter x y _ => kd = 3 ∧ h = (x : Int) ∧ k = (y : Int)
 | .wSnap x y => kd = 3 ∧ h = (x : Int) ∧ k = (y : Int)
 | .wLook x y _ => kd = 3 ∧ h = (x : Int) ∧ k = (y : Int)
 | .wRival x y _ _ _ _ => kd = 3 ∧ h = (x : Int) ∧ k = (y : Int)
 | .wNumber x y _ _ _ _ => kd = 3 ∧ h = (x : Int) ∧ k = (y : Int)
 | .wMark x y _ _ => kd = 3 ∧ h = (x : Int) ∧ k = (y : Int)
 | .wJoin x y _ _ _ _ => kd = 3 ∧ h = (x : Int) ∧ k = (y : Int)
 | .wOwn x y _ _ _ _ => kd = 3 ∧ h = (x : Int) ∧ k = (y : Int)
 | .wLeave x y _ _ _ => kd = 3 ∧ h = (x : Int) ∧ k = (y : Int)
 | .cEnter x _ => kd = 4 ∧ h = (x : Int) | .cJudge x => kd = 4 ∧ h = (x : Int) | .cDoom x _ => kd = 4 ∧ h = (x : Int) | .cPromise x _ => kd = 4 ∧ h = (x : Int) | .cCount x => kd = 4 ∧ h = (x : Int)
 | .cHelp x _ _ => kd = 4 ∧ h = (x : Int) | .cNumber x _ => kd = 4 ∧ h = (x : Int) | .cNote x _ _ _ => kd = 4 ∧ h = (x : Int) | .cLeave x _ _ _ => kd = 4 ∧ h = (x : Int)
 | .aEnter x _ => kd = 5 ∧ h = (x : Int) | .aThen x => kd = 5 ∧ h = (x : Int) | .aLeave x _ => kd = 5 ∧ h = (x : Int)
 | .sEnter x _ => kd = 6 ∧ h = (x : Int) | .sNumber x => kd = 6 ∧ h = (x : Int) | .sAged x _ _ _ => kd = 6 ∧ h = (x : Int) | .sDie x => kd = 6 ∧ h = (x : Int) | .sDead x _ => kd = 6 ∧ h = (x : Int) | .sTick x _ => kd = 6 ∧ h = (x : Int)
 | .sNote x _ _ => kd = 6 ∧ h = (x : Int) | .sRetired x _ => kd = 6 ∧ h = (x : Int) | .sGrace x _ _ _ => kd = 6 ∧ h = (x : Int) | .sKeys x _ => kd = 6 ∧ h = (x : Int) | .sUnmark x _ _ => kd = 6 ∧ h = (x : Int) | .sPast x => kd = 6 ∧ h = (x : Int)
 | .sOthers x _ _ => kd = 6 ∧ h = (x : Int) | .sPart x _ _ _ => kd = 6 ∧ h = (x : Int) | .sClose x => kd = 6 ∧ h = (x : Int) | .sClosed x _ => kd = 6 ∧ h = (x : Int) | .sNought x => kd = 6 ∧ h = (x : Int) | .sFree x => kd = 6 ∧ h = (x : Int) | .sLater x _ => kd = 6 ∧ h = (x : Int)
 | .done kd' _ => kd = kd'.num
section
variable {c : Cfg} {M : Mm} {id : Nat} {kd h k : Int}
theorem rNext_op {x y n : Nat} (r : List Nat) (e : kd = 2 ∧ h = (x : Int) ∧ k = (y : Int)) : opR kd h k (rNext x y n r) := by
 cases r <;> exact e
theorem wNext_op {x y n : Nat} (r : List Nat) (e : kd = 3 ∧ h = (x : Int) ∧ k = (y : Int)) : opR kd h k (wNext x y n r) := by
 cases r <;> exact e
theorem wGoes_op {x y n w : Nat} (r : List Nat) (e : kd = 3 ∧ h = (x : Int) ∧ k = (y : Int)) : opR kd h k (wGoes x y n w r) := by
 cases r with
 | nil =>
  simp only [wGoes]
  split
  ·exact wNext_op _ e
  ·exact e
 | cons j r => exact e
theorem mstep_op (m : Mach) (e : opR kd h k m) : opR kd h k (mstep c id M m).2 := by
  cases m
  all_goals
    first
    | exact e
    | (simp only [mstep, rFound, wFound, oGoes, sAges, sGraces, sGoes, sKey, sOther]
       repeat' split
       all_goals first | exact e | exact e.1 | exact rNext_op _ e | exact wNext_op _ e | exact wGoes_op _ e)
    | (rename_i sn
       cases sn <;>
       (simp only [mstep, sAges]
        repeat' split
        all_goals first | exact e | exact e.1))
def opT' (kd h k : Int) : TSt → Prop
 | .idle _ => True
 | .pinLoad m => opR kd h k m
 | .pinLay _ m => opR kd h k m
 | .work m => opR kd h k m
 | .leave kd' _ => kd = kd'.num
theorem goesOn_op {m : Mach} (e : opR kd h k m) : opT' kd h k (goesOn m) := by
 cases m <;> exact e
theorem tstep_op (st : TSt) (e : opT' kd h k st) : opT' kd h k (tstep c id M st).2 := by
 cases st with
 | idle a => trivial
 | pinLoad m => exact e
 | pinLay _ m => exact goesOn_op e
 | work m => exact goesOn_op (mstep_op m e)
 | leave kd' a => trivial
theorem begins_op (kind : Int) (x : Nat) (y : Int) (h1 : 1 ≤ kind) (h6 : kind ≤ 6) : opR kind (x : Int) y (begins c kind x y) := by
 unfold begins
 repeat' split
 all_goals first | assumption | exact ⟨by assumption, rfl, by omega⟩ | exact ⟨by omega, rfl⟩ | (simp only [opR, Kd.num]; omega)
end
def begun : TSt → Bool
 | .pinLoad _ => false
 | _ => true
def evAns (kd e : Int) : Prop := ∀ q : Kd, kd = q.num → ansOK q e
structure Str (c : Cfg) (s : Wd) : Prop where
 mem : MemOK c s.M
 tok : ∀ t : Nat, (t : Int) < c.T → tOK c t (s.th t)
 wd : ∀ t : Nat, (t : Int) < c.T → tWd (s.th t)
 ev : ∀ (j : Nat) (ev : Ev), s.evs[j]? = some ev → ev.bg ≤ s.n ∧ ev.en ≤ s.n ∧ (ev.thr : Int) < c.T ∧ 1 ≤ ev.kd ∧ ev.kd ≤ 6 ∧ ev.h < 18446744073709551616
 fin : ∀ (j : Nat) (ev : Ev), s.evs[j]? = some ev → ev.dn = true → ev.bg ≠ 0 ∧ evAns ev.kd ev.a.e
 run : ∀ (j : Nat) (ev : Ev), s.evs[j]? = some ev → ev.dn = false → s.at_ ev.thr = j ∧ isIdle (s.th ev.thr) = false ∧ opT' ev.kd (ev.h : Int) ev.k (s.th ev.thr) ∧ (begun (s.th ev.thr) = true → ev.bg ≠ 0)
 at_ : ∀ t : Nat, (t : Int) < c.T → isIdle (s.th t) = false → ∃ ev : Ev, s.evs[s.at_ t]? = some ev ∧ ev.dn = false ∧ ev.thr = t
theorem modify_at {α : Type} (l : List α) (i j : Nat) (f : α → α) : (l.modify i f)[j]? = if i = j then (l[j]?).map f else l[j]? := by
 rw [List.getElem?_modify]
 by_cases h : i = j
 ·simp [h]
 ·simp [h]
theorem Kd.num_inj {p q : Kd} (h : p.num = q.num) : p = q := by
 cases p <;> cases q <;> first | rfl | (simp [Kd.num] at h)
theorem idle_step {c : Cfg} {M : Mm} {id : Nat} {st : TSt} {a : Ans} (h : isIdle st = false) (e : (tstep c id M st).2 = .idle a) : ∃ kd, st = .leave kd a := by
 cases st with
 | idle a => cases h
 | pinLoad m => cases e
 | pinLay x m => simp only [tstep] at e; cases m <;> cases e
 | work m => simp only [tstep] at e; cases hm : (mstep c id M m).2 <;> rw [hm] at e <;> cases e
 | leave kd a' => cases e; exact ⟨kd, rfl⟩
theorem str_init (c : Cfg) (hr : c.right) : Str c w0 := by
 obtain ⟨a1, a2, a3, a4, a5, a6, a7, a8, a9, a10⟩ := hr
 refine ⟨⟨fun s => by simp [w0], fun k kd j hk h => ?_, ?_⟩, fun t _ => trivial, fun t _ => trivial, ?_, ?_, ?_, fun t _ h => by cases h⟩
 ·simp only [w0] at h
  by_cases hj : j < 12
  ·rw [hasM_bit _ _ _ hk hj] at h; simp at h
  ·rw [hasM_far _ _ _ (by omega)] at h; cases h
 ·show ((0 % 16 : Nat) : Int) ≤ c.S; omega
 all_goals (intro j ev h; simp [w0] at h)
theorem str_start {c : Cfg} {s : Wd} (hr : c.right) (h : Str c s) (id : Nat) (kd : Int) (x : Nat) (k : Int) (hid : (id : Int) < c.T) (hh : x < 18446744073709551616) : Str c (wstart c s id kd x k).2 := by
 unfold wstart
 cases hs : s.th id with
 | idle a =>
  by_cases hk : 1 ≤ kd ∧ kd ≤ 6
  ·have e : tstart c kd x k (.idle a) = (true, .pinLoad (begins c kd x k)) := tstart_yes _ _ _ _ _ hk.1 hk.2
   rw [e]
   have hidle : ∀ (j : Nat) (ev : Ev), s.evs[j]? = some ev → ev.dn = false → ev.thr ≠ id := by
    intro j ev h1 h2 h3
    have := (h.run j ev h1 h2).2.1
    rw [h3, hs] at this
    cases this
   refine ⟨h.mem, fun t ht => ?_, fun t ht => ?_, fun j ev hj => ?_, fun j ev hj hd => ?_, fun j ev hj hd => ?_, fun t ht hi => ?_⟩
   ·simp only [setF]
    split
    ·rename_i e; subst e; exact begins_ok (id := t) hr hh
    ·exact h.tok t ht
   ·simp only [setF]
    split
    ·exact begins_wd _ _ _
    ·exact h.wd t ht
   ·simp only [List.getElem?_append] at hj
    split at hj
    ·exact h.ev j ev hj
    ·rename_i hlt
     cases hj' : j - s.evs.length with
     | zero => rw [hj'] at hj; simp at hj; subst hj; exact ⟨Nat.zero_le _, Nat.zero_le _, hid, hk.1, hk.2, hh⟩
     | succ n => rw [hj'] at hj; simp at hj
   ·simp only [List.getElem?_append] at hj
    split at hj
    ·exact h.fin j ev hj hd
    ·cases hj' : j - s.evs.length with
     | zero => rw [hj'] at hj; simp at hj; subst hj; cases hd
     | succ n => rw [hj'] at hj; simp at hj
   ·simp only [List.getElem?_append] at hj
    split at hj
    ·have h1 := h.run j ev hj hd
     have h2 := hidle j ev hj hd
     simp only [setF_other _ _ h2]
     exact h1
    ·rename_i hlt
     cases hj' : j - s.evs.length with
     | zero =>
      rw [hj'] at hj; simp at hj; subst hj
      simp only [setF_same]
      exact ⟨by omega, rfl, begins_op _ _ _ hk.1 hk.2, fun e => by cases e⟩
     | succ n => rw [hj'] at hj; simp at hj
   ·simp only [setF] at hi ⊢
    by_cases e : t = id
    ·subst e
     simp only [if_true]
     exact ⟨_, by simp; rfl, rfl, rfl⟩
    ·simp only [if_neg e] at hi ⊢
     obtain ⟨ev, h1, h2, h3⟩ := h.at_ t ht hi
     refine ⟨ev, ?_, h2, h3⟩
     rw [List.getElem?_append_left (List.getElem?_eq_some_iff.1 h1).1]
     exact h1
  ·have e : tstart c kd x k (.idle a) = (false, .idle a) := if_neg hk
   rw [e]
   exact h
 | _ => exact h
theorem str_step {c : Cfg} {s : Wd} (hr : c.right) (h : Str c s) (id : Nat) (hid : (id : Int) < c.T) : Str c (wstep c s id).2 := by
 unfold wstep
 by_cases hi' : isIdle (s.th id) = true
 ·rw [if_pos hi']; exact h
 rw [if_neg hi']
 have hi : isIdle (s.th id) = false := by simpa using hi'
 obtain ⟨ev0, he1, he2, he3⟩ := h.at_ id hid hi
 have hk := tstep_keeps hr h.mem (s.th id) (h.tok id hid)
 have hr0 := h.run _ ev0 he1 he2
 rw [he3] at hr0
 have hv0 := h.ev _ ev0 he1
 have hev : ∀ (j : Nat) (ev : Ev), (s.evs.modify (s.at_ id) (evStep (s.n + 1) (tstep c id s.M (s.th id)).2))[j]? = some ev → (j ≠ s.at_ id ∧ s.evs[j]? = some ev) ∨ (j = s.at_ id ∧ ev = evStep (s.n + 1) (tstep c id s.M (s.th id)).2 ev0) := by
  intro j ev hj
  rw [modify_at] at hj
  by_cases e : s.at_ id = j
  ·rw [if_pos e, ← e, he1] at hj
   simp at hj
   exact .inr ⟨e.symm, hj.symm⟩
  ·rw [if_neg e] at hj
   exact .inl ⟨fun h => e h.symm, by simpa using hj⟩
 have hothers : ∀ (j : Nat) (ev : Ev), s.evs[j]? = some ev → ev.dn = false → j ≠ s.at_ id → ev.thr ≠ id := by
  intro j ev h1 h2 h3 h4
  have := (h.run j ev h1 h2).1
  rw [h4] at this
  exact h3 this.symm
 have hfld : ∀ (st : TSt), (evStep (s.n + 1) st ev0).thr = ev0.thr ∧ (evStep (s.n + 1) st ev0).kd = ev0.kd ∧ (evStep (s.n + 1) st ev0).h = ev0.h ∧ (evStep (s.n + 1) st ev0).k = ev0.k ∧ (evStep (s.n + 1) st ev0).bg ≠ 0 ∧ (evStep (s.n + 1) st ev0).bg ≤ s.n + 1 ∧ (evStep (s.n + 1) st ev0).en ≤ s.n + 1 := by
  intro st
  have h1 := hv0.1
  have h2 := hv0.2.1
  cases st <;> refine ⟨rfl, rfl, rfl, rfl, ?_, ?_, ?_⟩ <;> simp only [evStep] <;> (try split) <;> omega
 refine ⟨hk.1, fun t ht => ?_, fun t ht => ?_, fun j ev hj => ?_, fun j ev hj hd => ?_, fun j ev hj hd => ?_, fun t ht hti => ?_⟩
 ·simp only [setF]
  split
  ·rename_i e; subst e; exact hk.2
  ·exact h.tok t ht
 ·simp only [setF]
  split
  ·exact tstep_wd _ (h.wd id hid)
  ·exact h.wd t ht
 ·rcases hev j ev hj with ⟨_, h1⟩ | ⟨_, rfl⟩
  ·have := h.ev j ev h1
   exact ⟨Nat.le_succ_of_le this.1, Nat.le_succ_of_le this.2.1, this.2.2⟩
  ·obtain ⟨f1, f2, f3, f4, f5, f6, f7⟩ := hfld (tstep c id s.M (s.th id)).2
   refine ⟨f6, f7, ?_, ?_, ?_, ?_⟩
   ·rw [f1]; exact hv0.2.2.1
   ·rw [f2]; exact hv0.2.2.2.1
   ·rw [f2]; exact hv0.2.2.2.2.1
   ·rw [f3]; exact hv0.2.2.2.2.2
 ·rcases hev j ev hj with ⟨_, h1⟩ | ⟨_, rfl⟩
  ·exact h.fin j ev h1 hd
  ·obtain ⟨f1, f2, f3, f4, f5, f6, f7⟩ := hfld (tstep c id s.M (s.th id)).2
   refine ⟨f5, ?_⟩
   intro q hq
   cases hst : (tstep c id s.M (s.th id)).2 with
   | idle a =>
    obtain ⟨kd', hl⟩ := idle_step hi hst
    have h1 := hr0.2.2.1
    have h2 := h.wd id hid
    rw [hl] at h1 h2
    rw [f2] at hq
    have h3 : kd' = q := Kd.num_inj (h1.symm.trans hq)
    subst h3
    exact h2
   | _ => rw [hst] at hd; simp only [evStep] at hd; rw [he2] at hd; cases hd
 ·rcases hev j ev hj with ⟨hne, h1⟩ | ⟨rfl, rfl⟩
  ·have h2 := hothers j ev h1 hd hne
   simp only [setF_other _ _ h2]
   exact h.run j ev h1 hd
  ·obtain ⟨f1, f2, f3, f4, f5, f6, f7⟩ := hfld (tstep c id s.M (s.th id)).2
   rw [f1, f2, f3, f4, he3]
   simp only [setF_same]
   refine ⟨by first | trivial | rfl, ?_, tstep_op _ hr0.2.2.1, fun _ => f5⟩
   cases hst : (tstep c id s.M (s.th id)).2 with
   | idle a => rw [hst] at hd; cases hd
   | _ => rfl
 ·simp only [setF] at hti
  by_cases e : t = id
  ·subst e
   simp only [if_true] at hti
   refine ⟨evStep (s.n + 1) (tstep c t s.M (s.th t)).2 ev0, ?_, ?_, ?_⟩
   ·rw [modify_at, if_pos rfl, he1]; rfl
   ·cases hst : (tstep c t s.M (s.th t)).2 with
    | idle a => rw [hst] at hti; cases hti
    | _ => exact he2
   ·rw [(hfld _).1]; exact he3
  ·simp only [if_neg e] at hti
   obtain ⟨ev, h1, h2, h3⟩ := h.at_ t ht hti
   refine ⟨ev, ?_, h2, h3⟩
   have hne : s.at_ id ≠ s.at_ t := by
    intro e2
    rw [← e2, he1] at h1
    cases h1
    exact e (h3.symm.trans he3)
   rw [modify_at, if_neg hne]
   exact h1
theorem reach_str {c : Cfg} {s : Wd} (hr : c.right) (h : Reach c s) : Str c s := by
 induction h with
 | init => exact str_init c hr
 | start id kd x k hid hh _ ih => exact str_start hr ih id kd x k hid hh
 | step id hid _ ih => exact str_step hr ih id hid
def sS (M : Mm) (i : Nat) : Nat := stOf (M (.status i))
def sG (M : Mm) (i : Nat) : Nat := gnOf (M (.status i))
def sB (M : Mm) (i : Nat) : Bool := bz (M (.status i))
def slotOf : Mach → Option Nat
 | .oTally i _ => some i | .oHelp i _ _ _ => some i | .oNote i _ _ => some i | .oStart i _ _ => some i
 | .rSnap h _ => some (sl h) | .rLook h _ _ => some (sl h) | .rMark h _ _ _ => some (sl h) | .rJoin h _ _ _ _ _ => some (sl h) | .rOwn h _ _ _ _ _ => some (sl h) | .rLeave h _ _ _ _ => some (sl h)
 | .wSnap h _ => some (sl h) | .wLook h _ _ => some (sl h) | .wRival h _ _ _ _ _ => some (sl h) | .wNumber h _ _ _ _ _ => some (sl h) | .wMark h _ _ _ => some (sl h) | .wJoin h _ _ _ _ _ => some (sl h) | .wOwn h _ _ _ _ _ => some (sl h) | .wLeave h _ _ _ _ => some (sl h)
 | .cJudge h => some (sl h) | .cDoom h _ => some (sl h) | .cPromise h _ => some (sl h) | .cCount h => some (sl h) | .cHelp h _ _ => some (sl h) | .cNumber h _ => some (sl h) | .cNote h _ _ _ => some (sl h) | .cLeave h _ _ _ => some (sl h)
 | .aThen h => some (sl h) | .aLeave h _ => some (sl h)
 | .sNumber h => some (sl h) | .sAged h _ _ _ => some (sl h) | .sDie h => some (sl h) | .sDead h _ => some (sl h) | .sTick h _ => some (sl h) | .sNote h _ _ => some (sl h) | .sRetired h _ => some (sl h) | .sGrace h _ _ _ => some (sl h)
 | .sKeys h _ => some (sl h) | .sUnmark h _ _ => some (sl h) | .sPast h => some (sl h) | .sOthers h _ _ => some (sl h) | .sPart h _ _ _ => some (sl h) | .sClose h => some (sl h) | .sClosed h _ => some (sl h) | .sNought h => some (sl h) | .sFree h => some (sl h) | .sLater h _ => some (sl h)
 | _ => none
def own2 (M : Mm) (h : Nat) (P : Nat → Prop) : Prop := sB M (sl h) = true ∧ sG M (sl h) = h / 16 ∧ P (sS M (sl h))
def cl67 (cl : Bool) : Nat := if cl then 7 else 6
def ownR (M : Mm) : Mach → Prop
 | .oTally i s => sS M i = 1 ∧ sG M i = gnOf s | .oHelp i s _ _ => sS M i = 1 ∧ sG M i = gnOf s | .oNote i s _ => sS M i = 1 ∧ sG M i = gnOf s | .oStart i s _ => sS M i = 1 ∧ sG M i = gnOf s
 | .rSnap h _ => own2 M h (· = 2) | .rLook h _ _ => own2 M h (· = 2) | .rMark h _ _ _ => own2 M h (· = 2) | .rJoin h _ _ _ _ _ => own2 M h (· = 2) | .rOwn h _ _ _ _ _ => own2 M h (· = 2) | .rLeave h _ _ _ _ => own2 M h (· = 2)
 | .wSnap h _ => own2 M h (· = 2) | .wLook h _ _ => own2 M h (· = 2) | .wRival h _ _ _ _ _ => own2 M h (· = 2) | .wNumber h _ _ _ _ _ => own2 M h (· = 2) | .wMark h _ _ _ => own2 M h (· = 2) | .wJoin h _ _ _ _ _ => own2 M h (· = 2) | .wOwn h _ _ _ _ _ => own2 M h (· = 2) | .wLeave h _ _ _ _ => own2 M h (· = 2)
 | .cJudge h => own2 M h (· = 2) | .cDoom h _ => own2 M h (· = 2) | .cPromise h _ => own2 M h (· = 2)
 | .cCount h => own2 M h (fun s => s = 3 ∨ s = 4) | .cHelp h _ _ => own2 M h (fun s => s = 3 ∨ s = 4) | .cNumber h _ => own2 M h (fun s => s = 3 ∨ s = 4)
 | .cNote h _ hw p => own2 M h (fun s => s = 3 ∨ s = 4) ∧ (p = .settle → sS M (sl h) = 4) ∧ hw % 16 = sl h + 1
 | .cLeave h ab _ _ => own2 M h (fun s => s = 3 ∨ s = 4) ∧ (ab = false → sS M (sl h) = 4)
 | .aThen h => own2 M h (· = 2) | .aLeave h _ => own2 M h (· = 2)
 | .sNumber h => own2 M h (· = 4) | .sAged h _ _ _ => own2 M h (· = 4) | .sDie h => own2 M h (fun s => s = 4 ∨ s = 5) | .sDead h _ => own2 M h (fun s => s = 4 ∨ s = 5)
 | .sTick h cl => own2 M h (· = cl67 cl) | .sNote h cl _ => own2 M h (· = cl67 cl) | .sRetired h cl => own2 M h (· = cl67 cl) | .sGrace h cl _ _ => own2 M h (· = cl67 cl)
 | .sKeys h _ => own2 M h (· = 6) | .sUnmark h _ _ => own2 M h (· = 6) | .sPast h => own2 M h (· = 6) | .sOthers h _ _ => own2 M h (· = 6) | .sPart h _ _ _ => own2 M h (· = 6) | .sClose h => own2 M h (· = 6) | .sClosed h _ => own2 M h (· = 6)
 | .sNought h => own2 M h (· = 7) | .sFree h => own2 M h (· = 7) | .sLater h _ => own2 M h (fun s => s = 4 ∨ s = 6 ∨ s = 7)
 | _ => True
theorem upd_self (M : Mm) (s : Spot) : upd M s (M s) = M := by
 funext t
 unfold upd
 split
 ·rename_i h; rw [h]
 ·rfl
theorem upd_ld (M : Mm) (s : Spot) : upd M (ld M s).1 (ld M s).2 = M := upd_self M s
theorem upd_at (M : Mm) (s : Spot) (v : Nat) : upd M s v s = v := if_pos rfl
theorem upd_ne (M : Mm) {s t : Spot} (v : Nat) (h : t ≠ s) : upd M s v t = M t := if_neg h
theorem cas_hit (M : Mm) {s : Spot} {o : Nat} (v : Nat) (h : M s = o) : upd M (cas M s o v).1 (cas M s o v).2 = upd M s v := by
 unfold cas; rw [if_pos h]
theorem cas_miss (M : Mm) {s : Spot} {o : Nat} (v : Nat) (h : ¬ M s = o) : upd M (cas M s o v).1 (cas M s o v).2 = M := by
 unfold cas; rw [if_neg h]; exact upd_self M s
def Same3 (M M' : Mm) (i : Nat) : Prop := sG M' i = sG M i ∧ sB M' i = sB M i ∧ (sS M' i = sS M i ∨ sS M i = 3 ∧ sS M' i = 4)
theorem Same3.refl (M : Mm) (i : Nat) : Same3 M M i := ⟨rfl, rfl, .inl rfl⟩
theorem Same3.far {M : Mm} {s : Spot} {v i : Nat} (h : s ≠ .status i) : Same3 M (upd M s v) i := by
 have e : upd M s v (.status i) = M (.status i) := upd_ne M v (Ne.symm h)
 refine ⟨?_, ?_, .inl ?_⟩ <;> simp only [sG, sB, sS, e]
theorem own_busy {M : Mm} {m : Mach} {i : Nat} (h : ownR M m) (hs : slotOf m = some i) : (sB M i = true ∧ 2 ≤ sS M i) ∨ sS M i = 1 := by
 have o2 : ∀ {h : Nat} {P : Nat → Prop}, own2 M h P → (∀ x, P x → 2 ≤ x) → (sB M (sl h) = true ∧ 2 ≤ sS M (sl h)) ∨ sS M (sl h) = 1 := fun k hP => .inl ⟨k.1, hP _ k.2.2⟩
 have c2 : ∀ cl : Bool, 2 ≤ cl67 cl := fun cl => by cases cl <;> decide
 cases m <;> simp only [slotOf, reduceCtorEq, Option.some.injEq] at hs <;> subst hs <;> simp only [ownR] at h
 all_goals
  first
  | exact .inr h.1
  | exact o2 h (fun x hx => by omega)
  | exact o2 h (fun x hx => by rw [hx]; exact c2 _)
  | exact o2 h.1 (fun x hx => by omega)
theorem own2.keep {M M' : Mm} {h : Nat} {P : Nat → Prop} (k : own2 M h P) (hs : Same3 M M' (sl h)) (hP : P 3 → P 4) : own2 M' h P := by
 refine ⟨hs.2.1.trans k.1, hs.1.trans k.2.1, ?_⟩
 rcases hs.2.2 with e | ⟨e1, e2⟩
 ·rw [e]; exact k.2.2
 ·rw [e2]; have := k.2.2; rw [e1] at this; exact hP this
theorem ownR_keep {M M' : Mm} {m : Mach} (h : ownR M m) (hs : ∀ i, slotOf m = some i → Same3 M M' i) : ownR M' m := by
 have st4 : ∀ i, Same3 M M' i → sS M i = 4 → sS M' i = 4 := by
  intro i h1 h2
  rcases h1.2.2 with e | ⟨e1, e2⟩
  ·rw [e]; exact h2
  ·exact e2
 have st1 : ∀ i, Same3 M M' i → sS M i = 1 → sS M' i = 1 := by
  intro i h1 h2
  rcases h1.2.2 with e | ⟨e1, e2⟩
  ·rw [e]; exact h2
  ·omega
 have c34 : ∀ cl : Bool, 3 = cl67 cl → 4 = cl67 cl := fun cl => by cases cl <;> decide
 cases m
 all_goals try exact trivial
 all_goals have hs' := hs _ rfl
 all_goals simp only [ownR] at h ⊢
 all_goals
  first
  | exact ⟨st1 _ hs' h.1, hs'.1.trans h.2⟩
  | exact own2.keep h hs' (fun hh => by omega)
  | exact own2.keep h hs' (c34 _)
  | exact own2.keep h hs' (fun hh => by simp at hh)
  | exact own2.keep h hs' (fun hh => by omega)
  | exact ⟨own2.keep h.1 hs' (fun hh => by omega), fun e => st4 _ hs' (h.2.1 e), h.2.2⟩
  | exact ⟨own2.keep h.1 hs' (fun hh => by omega), fun e => st4 _ hs' (h.2 e)⟩
section
variable {c : Cfg} {M : Mm} {id : Nat}
theorem estep_same {h : Nat} {ok : Nat → Bool} {p : EP} (hp : eWd h ok p) {i : Nat} (ho : (sB M i = true ∧ 2 ≤ sS M i) ∨ sS M i = 1) : Same3 M (upd M (estep M h ok p).1.1 (estep M h ok p).1.2) i := by
 cases p with
 | look => rw [show (estep M h ok .look).1 = ld M _ from rfl, upd_ld]; exact .refl _ _
 | swap s =>
  show Same3 M (upd M (cas M (.status (sl h)) s (St.moveN s (stOf s) true)).1 (cas M (.status (sl h)) s (St.moveN s (stOf s) true)).2) i
  by_cases e : M (.status (sl h)) = s
  ·rw [cas_hit _ _ e]
   refine .far ?_
   intro e2
   cases e2
   obtain ⟨_, h0, h1, h2, _⟩ := hp
   rw [← e] at h0 h1 h2
   rcases ho with ho | ho
   ·have ho := ho.1; simp only [sB] at ho; rw [h2] at ho; cases ho
   ·exact h1 ho
  ·rw [cas_miss _ _ e]; exact .refl _ _
theorem hstep_same {w : Nat} {p : HP} (hp : hWd p) {i : Nat} : Same3 M (upd M (hstep M w p).1.1 (hstep M w p).1.2) i := by
 cases p with
 | number =>
  show Same3 M (upd M (cas M (.number (w % 16 - 1)) 0 (w / 16)).1 _) i
  exact .far (by intro e; cases e)
 | look => rw [show (hstep M w .look).1 = ld M _ from rfl, upd_ld]; exact .refl _ _
 | lay s =>
  show Same3 M (upd M (cas M (.status (w % 16 - 1)) s (St.moveN s 4 (bz s))).1 (cas M (.status (w % 16 - 1)) s (St.moveN s 4 (bz s))).2) i
  by_cases e : M (.status (w % 16 - 1)) = s
  ·rw [cas_hit _ _ e]
   by_cases e2 : w % 16 - 1 = i
   ·subst e2
    refine ⟨?_, ?_, .inr ⟨?_, ?_⟩⟩
    ·simp only [sG, upd_at, e]; exact gn_move _ _ _ (by omega)
    ·simp only [sB, upd_at, e]; exact bz_move _ _ _ (by omega)
    ·simp only [sS, e]; exact hp
    ·simp only [sS, upd_at]; exact st_move _ _ _ (by omega)
   ·exact .far (by intro e3; cases e3; exact e2 rfl)
  ·rw [cas_miss _ _ e]; exact .refl _ _
 | settle =>
  show Same3 M (upd M (cas M .tally w (w / 16 * 16)).1 _) i
  exact .far (by intro e; cases e)
theorem with_same {j s b k : Nat} (hk : k ≤ 1) (hb : b < 12) {i : Nat} : Same3 M (upd M (cas M (.status j) s (St.withW s (k : Int) (b : Int))).1 (cas M (.status j) s (St.withW s (k : Int) (b : Int))).2) i := by
 by_cases e : M (.status j) = s
 ·rw [cas_hit _ _ e]
  by_cases e2 : j = i
  ·subst e2
   have hh := high_with s k b hk hb
   refine ⟨?_, ?_, .inl ?_⟩
   ·simp only [sG, upd_at, e]; exact hh.2.1
   ·simp only [sB, upd_at, e]; exact hh.2.2
   ·simp only [sS, upd_at, e]; exact hh.1
  ·exact .far (by intro e3; cases e3; exact e2 rfl)
 ·rw [cas_miss _ _ e]; exact .refl _ _
theorem drop_same {j s b : Nat} {g : Bool} (hb : b < 12) {i : Nat} : Same3 M (upd M (cas M (.status j) s (St.dropW s (b : Int) g)).1 (cas M (.status j) s (St.dropW s (b : Int) g)).2) i := by
 by_cases e : M (.status j) = s
 ·rw [cas_hit _ _ e]
  by_cases e2 : j = i
  ·subst e2
   have hh := high_drop s b g hb
   refine ⟨?_, ?_, .inl ?_⟩
   ·simp only [sG, upd_at, e]; exact hh.2.1
   ·simp only [sB, upd_at, e]; exact hh.2.2
   ·simp only [sS, upd_at, e]; exact hh.1
  ·exact .far (by intro e3; cases e3; exact e2 rfl)
 ·rw [cas_miss _ _ e]; exact .refl _ _
theorem jstep_same {j b n k : Nat} (hk : k ≤ 1) (hb : b < 12) {p : JP} {i : Nat} : Same3 M (upd M (jstep M j (k : Int) b n p).1.1 (jstep M j (k : Int) b n p).1.2) i := by
 cases p with
 | look => rw [show (jstep M j (k : Int) b n .look).1 = ld M _ from rfl, upd_ld]; exact .refl _ _
 | number s => rw [show (jstep M j (k : Int) b n (.number s)).1 = ld M _ from rfl, upd_ld]; exact .refl _ _
 | lay s => exact with_same hk hb
theorem step_same (hr : c.right) (m : Mach) (hm : mOK c id m) (hw : wdOK m) {i : Nat} (hs : slotOf m ≠ some i) (ho : (sB M i = true ∧ 2 ≤ sS M i) ∨ sS M i = 1) : Same3 M (upd M (mstep c id M m).1.1 (mstep c id M m).1.2) i := by
 have t12 : ∀ {h : Nat}, tk c h → sl h < 12 := fun k => by have := tk_of k; omega
 have j12 : ∀ {j : Nat}, (j : Int) < c.S → j < 12 := fun k => by obtain ⟨a1, a2, a3, a4, _⟩ := hr; omega
 have ownF : ∀ {h v : Nat}, some (sl h) ≠ some i → Same3 M (upd M (.status (sl h)) v) i := fun h1 => .far (by intro e; cases e; exact h1 rfl)
 have ownF' : ∀ {j v : Nat}, some j ≠ some i → Same3 M (upd M (.status j) v) i := fun h1 => .far (by intro e; cases e; exact h1 rfl)
 cases m with
 | oTake j s =>
  show Same3 M (upd M (cas M (.status j) s (St.moveN s 1 false)).1 (cas M (.status j) s (St.moveN s 1 false)).2) i
  by_cases e : M (.status j) = s
  ·rw [cas_hit _ _ e]
   by_cases e2 : j = i
   ·subst e2
    have h0 : sS M j = 0 := by simp only [sS, e]; exact hw
    rcases ho with ho | ho
    ·omega
    ·omega
   ·exact .far (by intro e3; cases e3; exact e2 rfl)
  ·rw [cas_miss _ _ e]; exact .refl _ _
 | oHelp j s w p => exact hstep_same hw.2
 | oNote j s q => exact .far (by intro e; cases e)
 | oStart j s q => exact ownF' hs
 | rEnter h k p => exact estep_same hw ho
 | rMark h k n w => exact .far (by intro e; cases e)
 | rJoin h k n j r p => exact jstep_same (k := 1) (by omega) (t12 hm.1)
 | rOwn h k n j r p =>
  cases p with
  | look => rw [show (mstep c id M (.rOwn h k n j r .look)).1 = ld M _ from rfl, upd_ld]; exact .refl _ _
  | swap s => exact ownF hs
 | rLeave h k ab p e =>
  cases p with
  | look => rw [show (mstep c id M (.rLeave h k ab .look e)).1 = ld M _ from rfl, upd_ld]; exact .refl _ _
  | swap s => exact ownF hs
 | wEnter h k p => exact estep_same hw ho
 | wMark h k n w => exact .far (by intro e; cases e)
 | wJoin h k n j r p => exact jstep_same (k := 0) (by omega) (t12 hm.1)
 | wOwn h k n j r p =>
  cases p with
  | look => rw [show (mstep c id M (.wOwn h k n j r .look)).1 = ld M _ from rfl, upd_ld]; exact .refl _ _
  | swap s => exact ownF hs
 | wLeave h k ab p e =>
  cases p with
  | look => rw [show (mstep c id M (.wLeave h k ab .look e)).1 = ld M _ from rfl, upd_ld]; exact .refl _ _
  | swap s => exact ownF hs
 | cEnter h p => exact estep_same hw ho
 | cDoom h s => exact ownF hs
 | cPromise h s => exact ownF hs
 | cHelp h w p => exact hstep_same hw
 | cNumber h w => exact .far (by intro e; cases e)
 | cNote h w hw' p => exact hstep_same hw
 | cLeave h ab p a =>
  cases p with
  | look => rw [show (mstep c id M (.cLeave h ab .look a)).1 = ld M _ from rfl, upd_ld]; exact .refl _ _
  | swap s => exact ownF hs
 | aEnter h p => exact estep_same hw ho
 | aLeave h p =>
  cases p with
  | look => rw [show (mstep c id M (.aLeave h .look)).1 = ld M _ from rfl, upd_ld]; exact .refl _ _
  | swap s => exact ownF hs
 | sEnter h p => exact estep_same hw ho
 | sAged h j num sn => cases sn <;> (simp only [mstep, upd_ld]; exact .refl _ _)
 | sDead h w => exact ownF hs
 | sTick h cl => exact .far (by intro e; cases e)
 | sNote h cl r => exact .far (by intro e; cases e)
 | sUnmark h k w => exact .far (by intro e; cases e)
 | sPart h j n w => exact drop_same (t12 hm.1)
 | sClosed h w => exact ownF hs
 | sNought h => exact .far (by intro e; cases e)
 | sFree h => exact ownF hs
 | sLater h p =>
  cases p with
  | look => rw [show (mstep c id M (.sLater h .look)).1 = ld M _ from rfl, upd_ld]; exact .refl _ _
  | swap s => exact ownF hs
 | _ => simp only [mstep, upd_ld]; exact .refl _ _
end
theorem own2.imp {M : Mm} {h : Nat} {P Q : Nat → Prop} (k : own2 M h P) (hP : ∀ x, P x → Q x) : own2 M h Q := ⟨k.1, k.2.1, hP _ k.2.2⟩
theorem own2.same {M M' : Mm} {h : Nat} {P : Nat → Prop} (k : own2 M h P) (e : M' (.status (sl h)) = M (.status (sl h))) : own2 M' h P := by
 unfold own2 sB sG sS at *
 rw [e]; exact k
theorem own2.far {M : Mm} {h : Nat} {P : Nat → Prop} (k : own2 M h P) {s : Spot} {v : Nat} (hs : s ≠ .status (sl h)) : own2 (upd M s v) h P := k.same (upd_ne M v (Ne.symm hs))
theorem own2.move {M : Mm} {h x w : Nat} {P Q : Nat → Prop} (k : own2 M h P) (e : M (.status (sl h)) = w) (hx : x < 8) (hQ : Q x) : own2 (upd M (.status (sl h)) (St.moveN w x true)) h Q := by
 refine ⟨?_, ?_, ?_⟩
 ·simp only [sB, upd_at]; exact bz_move _ _ _ hx
 ·simp only [sG, upd_at]; rw [gn_move _ _ _ hx, ← e]; exact k.2.1
 ·simp only [sS, upd_at]; rw [st_move _ _ _ hx]; exact hQ
section
variable {c : Cfg} {M : Mm} {id : Nat}
theorem enter_own {h s : Nat} {ok : Nat → Bool} (hp : eWd h ok (.swap s)) (e : M (.status (sl h)) = s) {Q : Nat → Prop} (hQ : ∀ x, x = stOf s → ok x = true → Q x) : own2 (upd M (estep M h ok (.swap s)).1.1 (estep M h ok (.swap s)).1.2) h Q := by
 show own2 (upd M (cas M (.status (sl h)) s (St.moveN s (stOf s) true)).1 (cas M (.status (sl h)) s (St.moveN s (stOf s) true)).2) h Q
 rw [cas_hit _ _ e]
 obtain ⟨h1, _, _, _, h5⟩ := hp
 refine ⟨?_, ?_, ?_⟩
 ·simp only [sB, upd_at]; exact bz_move _ _ _ (stOf_lt _)
 ·simp only [sG, upd_at]; rw [gn_move _ _ _ (stOf_lt _)]; exact h1
 ·simp only [sS, upd_at]; rw [st_move _ _ _ (stOf_lt _)]; exact hQ _ rfl h5
theorem estep_yes {h : Nat} {ok : Nat → Bool} {p : EP} {s : Nat} (e : (estep M h ok p).2 = .yes s) : p = .swap s ∧ M (.status (sl h)) = s := by
 cases p with
 | look =>
  unfold estep at e
  simp only at e
  repeat' (split at e)
  all_goals cases e
 | swap s' =>
  unfold estep at e
  simp only at e
  split at e
  ·rename_i h1; cases e; exact ⟨rfl, h1⟩
  ·cases e
theorem lstep_some {i : Nat} {ab : Bool} {p p' : EP} (e : (lstep M i ab p).2 = some p') : upd M (lstep M i ab p).1.1 (lstep M i ab p).1.2 = M := by
 cases p with
 | look => exact upd_ld M _
 | swap s =>
  unfold lstep at e
  simp only at e
  split at e
  ·cases e
  ·rename_i h1; exact cas_miss _ _ h1
theorem ostep_same {i j k : Nat} (hk : k ≤ 1) (hj : j < 12) {p : EP} {i2 : Nat} : Same3 M (upd M (ostep M i (k : Int) j p).1.1 (ostep M i (k : Int) j p).1.2) i2 := by
 cases p with
 | look => rw [show (ostep M i (k : Int) j .look).1 = ld M _ from rfl, upd_ld]; exact .refl _ _
 | swap s => exact with_same hk hj
theorem rNext_own {h k n : Nat} (r : List Nat) (e : own2 M h (· = 2)) : ownR M (rNext h k n r) := by cases r <;> exact e
theorem wNext_own {h k n : Nat} (r : List Nat) (e : own2 M h (· = 2)) : ownR M (wNext h k n r) := by cases r <;> exact e
theorem wGoes_own {h k n w : Nat} (r : List Nat) (e : own2 M h (· = 2)) : ownR M (wGoes h k n w r) := by
 cases r with
 | nil =>
  simp only [wGoes]
  split
  ·exact wNext_own _ e
  ·exact e
 | cons j r => exact e
theorem oGoes_own {i : Nat} : ownR M (oGoes c i) := by
 unfold oGoes
 split <;> trivial
theorem sAges_own {h j num : Nat} (e : own2 M h (· = 4)) : ownR M (sAges c h j num) := by
 unfold sAges
 split
 ·exact e
 ·exact own2.imp (Q := fun s => s = 4 ∨ s = 5) e fun x hx => Or.inl hx
theorem sGoes_own {h : Nat} {cl : Bool} (e : own2 M h (· = cl67 cl)) : ownR M (sGoes h cl) := by
 cases cl <;> exact e
theorem sGraces_own {h j r : Nat} {cl : Bool} (e : own2 M h (· = cl67 cl)) : ownR M (sGraces c h cl j r) := by
 unfold sGraces
 split
 ·exact e
 ·exact sGoes_own e
theorem sKey_own {h k : Nat} (e : own2 M h (· = 6)) : ownR M (sKey c h k) := by
 unfold sKey
 split <;> exact e
theorem sOther_own {h j n : Nat} (e : own2 M h (· = 6)) : ownR M (sOther c h j n) := by
 unfold sOther
 split <;> exact e
theorem step_own (hr : c.right) (m : Mach) (hm : mOK c id m) (hw : wdOK m) (ho : ownR M m) : ownR (upd M (mstep c id M m).1.1 (mstep c id M m).1.2) (mstep c id M m).2 := by
 have t12 : ∀ {h : Nat}, tk c h → sl h < 12 := fun k => by have := tk_of k; omega
 have j12 : ∀ {j : Nat}, (j : Int) < c.S → j < 12 := fun k => by obtain ⟨a1, a2, a3, a4, _⟩ := hr; omega
 have k2 : ∀ {x : Nat}, x = 3 → x = 2 → False := fun h1 h2 => by omega
 have keep2 : ∀ {M' : Mm} {h : Nat}, own2 M h (· = 2) → Same3 M M' (sl h) → own2 M' h (· = 2) := fun k hs => k.keep hs fun e => by omega
 have keep34 : ∀ {M' : Mm} {h : Nat}, own2 M h (fun s => s = 3 ∨ s = 4) → Same3 M M' (sl h) → own2 M' h (fun s => s = 3 ∨ s = 4) := fun k hs => k.keep hs fun e => by omega
 have c67 : ∀ {cl : Bool} {x : Nat}, x = cl67 cl → x = 6 ∨ x = 7 := by
  intro cl x e; cases cl
  ·exact .inl e
  ·exact .inr e
 cases m with
 | oTake j s =>
  by_cases e : M (.status j) = s
  ·have e1 : (mstep c id M (.oTake j s)).2 = .oTally j s := by simp only [mstep]; rw [if_pos e]
   rw [e1]
   show sS (upd M (cas M (.status j) s (St.moveN s 1 false)).1 (cas M (.status j) s (St.moveN s 1 false)).2) j = 1 ∧ sG (upd M (cas M (.status j) s (St.moveN s 1 false)).1 (cas M (.status j) s (St.moveN s 1 false)).2) j = gnOf s
   rw [cas_hit _ _ e]
   simp only [sS, sG, upd_at]
   exact ⟨st_move _ _ _ (by omega), gn_move _ _ _ (by omega)⟩
  ·have e1 : (mstep c id M (.oTake j s)).2 = oGoes c j := by simp only [mstep]; rw [if_neg e]
   rw [e1]; exact oGoes_own
 | oLook i =>
  simp only [mstep, upd_ld]
  split
  ·exact oGoes_own
  ·trivial
 | oTally j s =>
  simp only [mstep, upd_ld]
  split <;> exact ho
 | oHelp j s w p =>
  have hs := ownR_keep (M' := upd M (hstep M w p).1.1 (hstep M w p).1.2) ho fun i _ => hstep_same hw.2
  simp only [mstep]
  split <;> exact hs
 | oNote j s q =>
  exact ownR_keep (M' := upd M (.snapshot j) q) ho fun i _ => .far (by intro e; cases e)
 | oStart j s q => trivial
 | rEnter h k p =>
  simp only [mstep]
  split
  ·trivial
  ·trivial
  ·rename_i s e
   obtain ⟨rfl, e2⟩ := estep_yes e
   exact enter_own hw e2 fun x _ hx => by simpa [is2] using hx
 | rSnap h k => simp only [mstep, upd_ld]; exact ho
 | rLook h k n =>
  simp only [mstep, upd_ld]
  split
  ·exact rNext_own _ ho
  ·exact ho
 | rMark h k n w =>
  have hs : own2 (upd M (cas M (.key k) w (Ma.withW w 0 (sl h : Int))).1 (cas M (.key k) w (Ma.withW w 0 (sl h : Int))).2) h (· = 2) := own2.far (M := M) (h := h) (P := (· = 2)) ho (by intro e; cases e)
  simp only [mstep]
  split
  ·exact rNext_own _ hs
  ·exact hs
 | rJoin h k n j r p =>
  have hs := keep2 ho (jstep_same (j := j) (n := n) (k := 1) (p := p) (by omega) (t12 hm.1))
  simp only [mstep]
  split
  ·exact hs
  ·exact rNext_own _ hs
  ·exact hs
  ·exact hs
 | rOwn h k n j r p =>
  have hj : j < 12 := j12 (hm.2.2.2.1 j (List.mem_cons_self ..))
  have hs := keep2 ho (ostep_same (i := sl h) (k := 0) (p := p) (by omega) hj)
  simp only [mstep]
  split
  ·exact hs
  ·exact rNext_own _ hs
 | rLeave h k ab p e =>
  simp only [mstep]
  split
  ·rename_i e1; rw [lstep_some e1]; exact ho
  ·trivial
 | wEnter h k p =>
  simp only [mstep]
  split
  ·trivial
  ·trivial
  ·rename_i s e
   obtain ⟨rfl, e2⟩ := estep_yes e
   exact enter_own hw e2 fun x _ hx => by simpa [is2] using hx
 | wSnap h k => simp only [mstep, upd_ld]; exact ho
 | wLook h k n => simp only [mstep, upd_ld]; exact wGoes_own _ ho
 | wRival h k n w j r =>
  simp only [mstep, upd_ld]
  split
  ·exact ho
  ·split
   ·exact ho
   ·exact wGoes_own _ ho
 | wNumber h k n w j r =>
  simp only [mstep, upd_ld]
  split
  ·exact wGoes_own _ ho
  ·exact ho
 | wMark h k n w =>
  have hs : own2 (upd M (cas M (.key k) w (Ma.withW w 1 (sl h : Int))).1 (cas M (.key k) w (Ma.withW w 1 (sl h : Int))).2) h (· = 2) := own2.far (M := M) (h := h) (P := (· = 2)) ho (by intro e; cases e)
  simp only [mstep]
  split
  ·exact wNext_own _ hs
  ·exact hs
 | wJoin h k n j r p =>
  have hs := keep2 ho (jstep_same (j := j) (n := n) (k := 0) (p := p) (by omega) (t12 hm.1))
  simp only [mstep]
  split
  ·exact hs
  ·exact wNext_own _ hs
  ·exact hs
  ·exact hs
 | wOwn h k n j r p =>
  have hj : j < 12 := j12 (hm.2.2.2.1 j (List.mem_cons_self ..))
  have hs := keep2 ho (ostep_same (i := sl h) (k := 1) (p := p) (by omega) hj)
  simp only [mstep]
  split
  ·exact hs
  ·exact wNext_own _ hs
 | wLeave h k ab p e =>
  simp only [mstep]
  split
  ·rename_i e1; rw [lstep_some e1]; exact ho
  ·trivial
 | cEnter h p =>
  simp only [mstep]
  split
  ·trivial
  ·trivial
  ·rename_i s e
   obtain ⟨rfl, e2⟩ := estep_yes e
   exact enter_own hw e2 fun x _ hx => by simpa [is2] using hx
 | cJudge h =>
  simp only [mstep, upd_ld]
  split <;> exact ho
 | cDoom h s =>
  by_cases e : M (.status (sl h)) = s
  ·simp only [mstep]; rw [if_pos e]; trivial
  ·simp only [mstep]; rw [if_neg e, cas_miss _ _ e]; exact ho
 | cPromise h s =>
  by_cases e : M (.status (sl h)) = s
  ·simp only [mstep]; rw [if_pos e, cas_hit _ _ e]
   exact own2.move (P := (· = 2)) (Q := fun s => s = 3 ∨ s = 4) ho e (by omega) (Or.inl rfl)
  ·simp only [mstep]; rw [if_neg e, cas_miss _ _ e]; exact ho
 | cCount h =>
  simp only [mstep, upd_ld]
  split
  ·exact ho
  ·split
   ·exact ⟨ho, fun e => by cases e⟩
   ·exact ho
 | cHelp h w p =>
  have hs := keep34 ho (hstep_same (p := p) (w := w) hw)
  simp only [mstep]
  split <;> exact hs
 | cNumber h w =>
  obtain ⟨b1, b2, b3, b4⟩ := hm
  have q12 := t12 b1
  have qS := (tk_of b1).2.2.1
  have hr' := hr
  obtain ⟨a1, a2, a3, a4, a5, a6, a7, a8, a9, a10⟩ := hr'
  have hnx : nextN w (sl h : Int) = 16 * (w / 16 + 1) + (sl h + 1) := by
   unfold nextN
   rw [(Ta.next_yes (x := (w : Int)) (p := (sl h : Int)) ⟨by omega, by omega, by omega, by omega⟩).2]
   omega
  have hs : own2 (upd M (cas M .tally w (nextN w (sl h : Int))).1 (cas M .tally w (nextN w (sl h : Int))).2) h (fun s => s = 3 ∨ s = 4) := own2.far (M := M) (h := h) (P := fun s => s = 3 ∨ s = 4) ho (by intro e; cases e)
  simp only [mstep]
  split
  ·exact ⟨hs, fun e => by (cases e), by rw [hnx]; omega⟩
  ·exact hs
 | cNote h w hw' p =>
  obtain ⟨h1, h2, h3⟩ := ho
  have hs := keep34 h1 (hstep_same (p := p) (w := hw') hw)
  have hp : hw' % 16 - 1 = sl h := by omega
  cases p with
  | number => exact ⟨hs, fun e => (by cases e), h3⟩
  | look =>
   refine ⟨hs, fun e => ?_, h3⟩
   rw [show (mstep c id M (.cNote h w hw' .look)).1 = ld M _ from rfl, upd_ld]
   have e2 : (if stOf (M (.status (hw' % 16 - 1))) = 3 then HP.lay (M (.status (hw' % 16 - 1))) else HP.settle) = .settle := e
   split at e2
   ·cases e2
   ·rename_i h4
    rw [hp] at h4
    rcases h1.2.2 with h5 | h5
    ·exact (h4 h5).elim
    ·exact h5
  | lay s =>
   by_cases e : M (.status (hw' % 16 - 1)) = s
   ·have e1 : (mstep c id M (.cNote h w hw' (.lay s))).2 = .cNote h w hw' .settle := by simp only [mstep, hstep]; rw [if_pos e]
    rw [e1]
    refine ⟨hs, fun _ => ?_, h3⟩
    show sS (upd M (cas M (.status (hw' % 16 - 1)) s (St.moveN s 4 (bz s))).1 (cas M (.status (hw' % 16 - 1)) s (St.moveN s 4 (bz s))).2) (sl h) = 4
    rw [cas_hit _ _ e, ← hp]
    simp only [sS, upd_at]
    exact st_move _ _ _ (by omega)
   ·have e1 : (mstep c id M (.cNote h w hw' (.lay s))).2 = .cNote h w hw' .look := by simp only [mstep, hstep]; rw [if_neg e]
    rw [e1]
    exact ⟨hs, fun e => (by cases e), h3⟩
  | settle =>
   refine ⟨hs, fun _ => ?_⟩
   have h4 := h2 rfl
   show sS (upd M (cas M .tally hw' (hw' / 16 * 16)).1 (cas M .tally hw' (hw' / 16 * 16)).2) (sl h) = 4
   unfold sS
   rw [upd_ne _ _ (by intro e; cases e)]
   exact h4
 | cLeave h ab p a =>
  simp only [mstep]
  split
  ·rename_i e1; rw [lstep_some e1]; exact ho
  ·trivial
 | aEnter h p =>
  simp only [mstep]
  split
  ·trivial
  ·trivial
  ·rename_i s e
   obtain ⟨rfl, e2⟩ := estep_yes e
   exact enter_own hw e2 fun x _ hx => by simpa [is2] using hx
 | aThen h => simp only [mstep, upd_ld]; exact ho
 | aLeave h p =>
  simp only [mstep]
  split
  ·rename_i e1; rw [lstep_some e1]; exact ho
  ·trivial
 | sEnter h p =>
  simp only [mstep]
  split
  ·trivial
  ·trivial
  ·rename_i s e
   obtain ⟨rfl, e2⟩ := estep_yes e
   have h47 : stOf s = 4 ∨ stOf s = 5 ∨ stOf s = 6 ∨ stOf s = 7 := by have := hw.2.2.2.2; simpa [seen4] using this
   split
   ·rename_i h4
    exact enter_own (Q := (· = 4)) hw e2 fun x hx _ => by omega
   ·split
    ·exact enter_own (Q := fun s => s = 4 ∨ s = 5) hw e2 fun x hx _ => by omega
    ·split
     ·exact enter_own (Q := (· = 6)) hw e2 fun x hx _ => (show x = 6 by omega)
     ·exact enter_own (Q := (· = 7)) hw e2 fun x hx _ => (show x = 7 by omega)
 | sNumber h => simp only [mstep, upd_ld]; exact sAges_own ho
 | sAged h j num sn =>
  cases sn
  ·simp only [mstep, upd_ld]
   split
   ·exact own2.imp (M := M) (h := h) (P := (· = 4)) (Q := fun s => s = 4 ∨ s = 6 ∨ s = 7) ho fun x hx => Or.inl hx
   ·split
    ·exact ho
    ·exact sAges_own ho
  ·simp only [mstep, upd_ld]
   split
   ·exact own2.imp (M := M) (h := h) (P := (· = 4)) (Q := fun s => s = 4 ∨ s = 6 ∨ s = 7) ho fun x hx => Or.inl hx
   ·exact sAges_own ho
 | sDie h => simp only [mstep, upd_ld]; exact ho
 | sDead h w =>
  by_cases e : M (.status (sl h)) = w
  ·simp only [mstep]; rw [if_pos e, cas_hit _ _ e]
   exact own2.move (P := fun s => s = 4 ∨ s = 5) (Q := (· = cl67 false)) ho e (by omega) rfl
  ·simp only [mstep]; rw [if_neg e, cas_miss _ _ e]; exact ho
 | sTick h cl => exact own2.far (M := M) (h := h) (P := (· = cl67 cl)) ho (by intro e; cases e)
 | sNote h cl r => exact sGraces_own (own2.far (M := M) (h := h) (P := (· = cl67 cl)) ho (by intro e; cases e))
 | sRetired h cl => simp only [mstep, upd_ld]; exact sGraces_own ho
 | sGrace h cl j r =>
  simp only [mstep, upd_ld]
  split
  ·exact own2.imp (M := M) (h := h) (P := (· = cl67 cl)) (Q := fun s => s = 4 ∨ s = 6 ∨ s = 7) ho fun x hx => Or.inr (c67 hx)
  ·exact sGraces_own ho
 | sKeys h k =>
  simp only [mstep, upd_ld]
  split
  ·exact sKey_own ho
  ·exact ho
 | sUnmark h k w =>
  have hs : own2 (upd M (cas M (.key k) w (Ma.dropW w (sl h : Int))).1 (cas M (.key k) w (Ma.dropW w (sl h : Int))).2) h (· = 6) := own2.far (M := M) (h := h) (P := (· = 6)) ho (by intro e; cases e)
  simp only [mstep]
  split
  ·exact sKey_own hs
  ·exact hs
 | sPast h => simp only [mstep, upd_ld]; exact sOther_own ho
 | sOthers h j n =>
  simp only [mstep, upd_ld]
  split
  ·exact sOther_own ho
  ·exact ho
 | sPart h j n w =>
  have hs := own2.keep (M := M) (h := h) (P := (· = 6)) ho (drop_same (M := M) (j := j) (s := w) (g := nzb n) (t12 hm.1)) (fun e => by omega)
  simp only [mstep]
  split
  ·exact sOther_own hs
  ·exact hs
 | sClose h => simp only [mstep, upd_ld]; exact ho
 | sClosed h w =>
  by_cases e : M (.status (sl h)) = w
  ·simp only [mstep]; rw [if_pos e, cas_hit _ _ e]
   exact own2.move (P := (· = 6)) (Q := (· = cl67 true)) ho e (by omega) rfl
  ·simp only [mstep]; rw [if_neg e, cas_miss _ _ e]; exact ho
 | sNought h => exact own2.far (M := M) (h := h) (P := (· = 7)) ho (by intro e; cases e)
 | sFree h => trivial
 | sLater h p =>
  simp only [mstep]
  split
  ·rename_i e1; rw [lstep_some e1]; exact ho
  ·trivial
 | done kd a => trivial
end
theorem ownR_none {M : Mm} {m : Mach} (h : slotOf m = none) : ownR M m := by
 cases m <;> first | trivial | (simp only [slotOf, reduceCtorEq] at h)
theorem rNext_slot {x k n : Nat} (r : List Nat) : slotOf (rNext x k n r) = some (sl x) := by cases r <;> rfl
theorem wNext_slot {x k n : Nat} (r : List Nat) : slotOf (wNext x k n r) = some (sl x) := by cases r <;> rfl
theorem wGoes_slot {x k n w : Nat} (r : List Nat) : slotOf (wGoes x k n w r) = some (sl x) := by
 cases r with
 | nil =>
  simp only [wGoes]
  split
  ·exact wNext_slot _
  ·rfl
 | cons j r => rfl
section
variable {c : Cfg} {M : Mm} {id : Nat}
theorem slot_step (m : Mach) (hw : wdOK m) {i : Nat} (h : slotOf (mstep c id M m).2 = some i) : slotOf m = some i ∨ ¬ ((sB M i = true ∧ 2 ≤ sS M i) ∨ sS M i = 1) := by
  have en : ∀ {x s : Nat} {ok : Nat → Bool} {p : EP}, eWd x ok p → (estep M x ok p).2 = .yes s → ¬ ((sB M (sl x) = true ∧ 2 ≤ sS M (sl x)) ∨ sS M (sl x) = 1) := by
    intro x s ok p hp e
    obtain ⟨rfl, e2⟩ := estep_yes e
    obtain ⟨_, h0, h1, h2, _⟩ := hp
    rw [← e2] at h0 h1 h2
    rintro (⟨h3, _⟩ | h3)
    · simp only [sB] at h3; rw [h2] at h3; cases h3
    · exact h1 h3
  cases m
  case oTake j s =>
    simp only [mstep] at h
    split at h
    · rename_i e
      simp only [slotOf, Option.some.injEq] at h
      subst h
      right
      have h0 : sS M j = 0 := by simp only [sS, e]; exact hw
      omega
    · unfold oGoes at h; split at h <;> cases h
  case oLook j =>
    simp only [mstep] at h
    split at h
    · unfold oGoes at h; split at h <;> cases h
    · cases h
  case rEnter x k p =>
    simp only [mstep] at h
    split at h
    · cases h
    · cases h
    · rename_i s e
      simp only [slotOf, Option.some.injEq] at h
      subst h
      exact .inr (en hw e)
  case wEnter x k p =>
    simp only [mstep] at h
    split at h
    · cases h
    · cases h
    · rename_i s e
      simp only [slotOf, Option.some.injEq] at h
      subst h
      exact .inr (en hw e)
  case cEnter x p =>
    simp only [mstep] at h
    split at h
    · cases h
    · cases h
    · rename_i s e
      simp only [slotOf, Option.some.injEq] at h
      subst h
      exact .inr (en hw e)
  case aEnter x p =>
    simp only [mstep] at h
    split at h
    · cases h
    · cases h
    · rename_i s e
      simp only [slotOf, Option.some.injEq] at h
      subst h
      exact .inr (en hw e)
  case sEnter x p =>
    simp only [mstep] at h
    split at h
    · cases h
    · cases h
    · rename_i s e
      right
      have hi : sl x = i := by
        repeat' (split at h)
        all_goals (simp only [slotOf, Option.some.injEq] at h; exact h)
      subst hi
      exact en hw e
  case done kd a => cases h
  case sAged x j num sn =>
    left
    cases sn
    · simp only [mstep, sAges] at h
      repeat' (split at h)
      all_goals exact h
    · simp only [mstep, sAges] at h
      repeat' (split at h)
      all_goals exact h
  all_goals
    left
    first
    | exact h
    | (simp only [mstep, rFound, wFound, sAges, sGraces, sGoes, sKey, sOther] at h
       repeat' (split at h)
       all_goals first | exact h | (cases h; done) | (rw [rNext_slot] at h; exact h) | (rw [wNext_slot] at h; exact h) | (rw [wGoes_slot] at h; exact h))
end
def ownT (M : Mm) : TSt → Prop
 | .pinLoad m => slotOf m = none
 | .pinLay _ m => slotOf m = none
 | .work m => ownR M m
 | _ => True
def slotT : TSt → Option Nat
 | .work m => slotOf m
 | _ => none
structure OwnI (c : Cfg) (s : Wd) : Prop where
 own : ∀ t : Nat, (t : Int) < c.T → ownT s.M (s.th t)
 uniq : ∀ t u : Nat, (t : Int) < c.T → (u : Int) < c.T → t ≠ u → ∀ i, slotT (s.th t) = some i → slotT (s.th u) ≠ some i
theorem ownT_busy {M : Mm} {st : TSt} {i : Nat} (h : ownT M st) (hs : slotT st = some i) : (sB M i = true ∧ 2 ≤ sS M i) ∨ sS M i = 1 := by
 cases st <;> first | exact own_busy h hs | cases hs
theorem ownT_keep {M M' : Mm} {st : TSt} (h : ownT M st) (hs : ∀ i, slotT st = some i → Same3 M M' i) : ownT M' st := by
 cases st with
 | work m => exact ownR_keep h hs
 | _ => exact h
theorem slotT_goesOn {m : Mach} : slotT (goesOn m) = slotOf m := by cases m <;> rfl
theorem ownT_goesOn {M : Mm} {m : Mach} (h : ownR M m) : ownT M (goesOn m) := by cases m <;> first | exact h | trivial
theorem begins_slot {c : Cfg} {kind : Int} {h : Nat} {k : Int} : slotOf (begins c kind h k) = none := by
 unfold begins
 repeat' split
 all_goals rfl
theorem tstep_same {c : Cfg} {M : Mm} {id : Nat} (hr : c.right) (st : TSt) (hm : tOK c id st) (hw : tWd st) {i : Nat} (hs : slotT st ≠ some i) (ho : (sB M i = true ∧ 2 ≤ sS M i) ∨ sS M i = 1) : Same3 M (upd M (tstep c id M st).1.1 (tstep c id M st).1.2) i := by
 cases st with
 | idle a => simp only [tstep, upd_ld]; exact .refl _ _
 | pinLoad m => simp only [tstep, upd_ld]; exact .refl _ _
 | pinLay e m => exact .far (by intro e; cases e)
 | work m => exact step_same hr m hm.1 hw hs ho
 | leave kd a => exact .far (by intro e; cases e)
theorem tstep_slot {c : Cfg} {M : Mm} {id : Nat} (st : TSt) (hw : tWd st) (h0 : ownT M st) {i : Nat} (h : slotT (tstep c id M st).2 = some i) : slotT st = some i ∨ ¬ ((sB M i = true ∧ 2 ≤ sS M i) ∨ sS M i = 1) := by
 cases st with
 | idle a => cases h
 | pinLoad m => cases h
 | pinLay e m =>
  simp only [tstep, slotT_goesOn] at h
  have h1 : slotOf m = none := h0
  rw [h1] at h; cases h
 | work m =>
  simp only [tstep, slotT_goesOn] at h
  exact slot_step m hw h
 | leave kd a => cases h
theorem tstep_own {c : Cfg} {M : Mm} {id : Nat} (hr : c.right) (st : TSt) (hm : tOK c id st) (hw : tWd st) (h0 : ownT M st) : ownT (upd M (tstep c id M st).1.1 (tstep c id M st).1.2) (tstep c id M st).2 := by
 cases st with
 | idle a => trivial
 | pinLoad m => exact h0
 | pinLay e m => exact ownT_goesOn (ownR_none h0)
 | work m => exact ownT_goesOn (step_own hr m hm.1 hw h0)
 | leave kd a => trivial
theorem own_start {c : Cfg} {s : Wd} (h : OwnI c s) (id : Nat) (kd : Int) (x : Nat) (k : Int) : OwnI c (wstart c s id kd x k).2 := by
 unfold wstart
 cases hs : s.th id with
 | idle a =>
  by_cases hk : 1 ≤ kd ∧ kd ≤ 6
  ·have e : tstart c kd x k (.idle a) = (true, .pinLoad (begins c kd x k)) := tstart_yes _ _ _ _ _ hk.1 hk.2
   rw [e]
   refine ⟨fun t ht => ?_, fun t u ht hu htu i hi => ?_⟩
   ·simp only [setF]
    split
    ·exact begins_slot
    ·exact h.own t ht
   ·simp only [setF] at hi ⊢
    by_cases e1 : t = id
    ·rw [if_pos e1] at hi; cases hi
    ·rw [if_neg e1] at hi
     by_cases e2 : u = id
     ·rw [if_pos e2]; intro h; cases h
     ·rw [if_neg e2]; exact h.uniq t u ht hu htu i hi
  ·have e : tstart c kd x k (.idle a) = (false, .idle a) := if_neg hk
   rw [e]
   exact h
 | _ => exact h
theorem own_step {c : Cfg} {s : Wd} (hr : c.right) (hst : Str c s) (h : OwnI c s) (id : Nat) (hid : (id : Int) < c.T) : OwnI c (wstep c s id).2 := by
 unfold wstep
 by_cases hi' : isIdle (s.th id) = true
 ·rw [if_pos hi']; exact h
 rw [if_neg hi']
 have hm := hst.tok id hid
 have hw := hst.wd id hid
 have h0 := h.own id hid
 have nu : ∀ u : Nat, (u : Int) < c.T → u ≠ id → ∀ i, slotT (s.th u) = some i → slotT (tstep c id s.M (s.th id)).2 ≠ some i := by
  intro u hu hne i h1 h2
  rcases tstep_slot (s.th id) hw h0 h2 with h3 | h3
  ·exact h.uniq u id hu hid hne i h1 h3
  ·exact h3 (ownT_busy (h.own u hu) h1)
 refine ⟨fun t ht => ?_, fun t u ht hu htu i hi => ?_⟩
 ·simp only [setF]
  by_cases e : t = id
  ·rw [if_pos e]; exact tstep_own hr _ hm hw h0
  ·rw [if_neg e]
   refine ownT_keep (h.own t ht) fun i hi => tstep_same hr _ hm hw ?_ (ownT_busy (h.own t ht) hi)
   exact h.uniq t id ht hid e i hi
 ·simp only [setF] at hi ⊢
  by_cases e1 : t = id
  ·rw [if_pos e1] at hi
   have e2 : u ≠ id := fun e => htu (e1.trans e.symm)
   rw [if_neg e2]
   intro h4
   exact nu u hu e2 i h4 hi
  ·rw [if_neg e1] at hi
   by_cases e2 : u = id
   ·rw [if_pos e2]; exact nu t ht e1 i hi
   ·rw [if_neg e2]; exact h.uniq t u ht hu htu i hi
theorem reach_own {c : Cfg} {s : Wd} (hr : c.right) (h : Reach c s) : OwnI c s := by
 induction h with
 | init => exact ⟨fun t _ => trivial, fun t u _ _ _ i h => by cases h⟩
 | start id kd x k hid hh _ ih => exact own_start ih id kd x k
 | step id hid hs ih => exact own_step hr (reach_str hr hs) ih id hid
def seqN (M : Mm) : Nat := M .tally / 16
def sumTo (f : Nat → Nat) : Nat → Nat
 | 0 => 0
 | n + 1 => sumTo f n + f n
theorem sumTo_congr {f g : Nat → Nat} {n : Nat} (h : ∀ k, k < n → f k = g k) : sumTo f n = sumTo g n := by
 induction n with
 | zero => rfl
 | succ n ih =>
  simp only [sumTo]
  rw [ih fun k hk => h k (by omega), h n (by omega)]
theorem sumTo_set (f : Nat → Nat) {k n x : Nat} (h : k < n) : sumTo (setF f k x) n + f k = sumTo f n + x := by
 induction n with
 | zero => omega
 | succ n ih =>
  simp only [sumTo]
  by_cases e : k = n
  ·subst e
   have : sumTo (setF f k x) k = sumTo f k := sumTo_congr fun j hj => setF_other _ _ (by omega)
   rw [this, setF_same]; omega
  ·have h1 := ih (by omega)
   rw [setF_other f x (by omega : n ≠ k)]
   omega
def preM : Mach → Nat
 | .cNote .. => 0
 | .cLeave .. => 0
 | .done .c _ => 0
 | _ => 1
def preT : TSt → Nat
 | .idle _ => 0
 | .pinLoad m => preM m
 | .pinLay _ m => preM m
 | .work m => preM m
 | .leave .c _ => 0
 | .leave _ _ => 1
theorem preM_le (m : Mach) : preM m ≤ 1 := by unfold preM; split <;> omega
theorem preT_goesOn (m : Mach) : preT (goesOn m) = preM m := by
 cases m <;> first | rfl | (rename_i kd a; cases kd <;> rfl)
section
variable {c : Cfg} {M : Mm} {id : Nat}
theorem seq_far {s : Spot} {v : Nat} (h : s ≠ .tally) : seqN (upd M s v) = seqN M := by
 unfold seqN; rw [upd_ne M v (Ne.symm h)]
theorem hstep_seq {w : Nat} {p : HP} : seqN (upd M (hstep M w p).1.1 (hstep M w p).1.2) = seqN M := by
 cases p with
 | number => exact seq_far (by intro e; cases e)
 | look => rw [show (hstep M w .look).1 = ld M _ from rfl, upd_ld]
 | lay s => exact seq_far (by intro e; cases e)
 | settle =>
  show seqN (upd M (cas M .tally w (w / 16 * 16)).1 (cas M .tally w (w / 16 * 16)).2) = seqN M
  by_cases e : M .tally = w
  ·rw [cas_hit _ _ e]
   unfold seqN
   rw [upd_at, e]; omega
  ·rw [cas_miss _ _ e]
theorem estep_seq {h : Nat} {ok : Nat → Bool} {p : EP} : seqN (upd M (estep M h ok p).1.1 (estep M h ok p).1.2) = seqN M := by
 cases p with
 | look => rw [show (estep M h ok .look).1 = ld M _ from rfl, upd_ld]
 | swap s => exact seq_far (by intro e; cases e)
theorem lstep_seq {i : Nat} {ab : Bool} {p : EP} : seqN (upd M (lstep M i ab p).1.1 (lstep M i ab p).1.2) = seqN M := by
 cases p with
 | look => rw [show (lstep M i ab .look).1 = ld M _ from rfl, upd_ld]
 | swap s => exact seq_far (by intro e; cases e)
theorem ostep_seq {i j : Nat} {side : Int} {p : EP} : seqN (upd M (ostep M i side j p).1.1 (ostep M i side j p).1.2) = seqN M := by
 cases p with
 | look => rw [show (ostep M i side j .look).1 = ld M _ from rfl, upd_ld]
 | swap s => exact seq_far (by intro e; cases e)
theorem jstep_seq {j b n : Nat} {side : Int} {p : JP} : seqN (upd M (jstep M j side b n p).1.1 (jstep M j side b n p).1.2) = seqN M := by
 cases p with
 | look => rw [show (jstep M j side b n .look).1 = ld M _ from rfl, upd_ld]
 | number s => rw [show (jstep M j side b n (.number s)).1 = ld M _ from rfl, upd_ld]
 | lay s => exact seq_far (by intro e; cases e)
theorem mstep_seq (hr : c.right) (m : Mach) (hm : mOK c id m) : seqN (upd M (mstep c id M m).1.1 (mstep c id M m).1.2) + preM (mstep c id M m).2 ≤ seqN M + preM m := by
 have le1 : ∀ m : Mach, preM m ≤ 1 := preM_le
 have gen : ∀ {M' : Mm} {m m' : Mach}, seqN M' = seqN M → preM m = 1 → seqN M' + preM m' ≤ seqN M + preM m := by
  intro M' m m' h1 h2
  have := le1 m'
  omega
 have far : ∀ {s : Spot} {v : Nat}, s ≠ .tally → seqN (upd M s v) = seqN M := fun h => seq_far h
 cases m
 case cNumber h w =>
  obtain ⟨b1, b2, b3, b4⟩ := hm
  have k := tk_of b1
  obtain ⟨a1, a2, a3, a4, a5, a6, a7, a8, a9, a10⟩ := hr
  have hnx : nextN w (sl h : Int) = 16 * (w / 16 + 1) + (sl h + 1) := by
   unfold nextN
   rw [(Ta.next_yes (x := (w : Int)) (p := (sl h : Int)) ⟨by omega, by omega, by omega, by omega⟩).2]
   omega
  by_cases e : M .tally = w
  ·have e1 : (mstep c id M (.cNumber h w)).2 = .cNote h w (nextN w (sl h : Int)) .number := by simp only [mstep]; rw [if_pos e]
   rw [e1]
   show seqN (upd M (cas M .tally w (nextN w (sl h : Int))).1 (cas M .tally w (nextN w (sl h : Int))).2) + 0 ≤ seqN M + 1
   rw [cas_hit _ _ e]
   unfold seqN
   rw [upd_at, hnx, e]
   omega
  ·show seqN (upd M (cas M .tally w (nextN w (sl h : Int))).1 (cas M .tally w (nextN w (sl h : Int))).2) + _ ≤ seqN M + 1
   rw [cas_miss _ _ e]
   have := le1 (mstep c id M (.cNumber h w)).2
   omega
 case cNote h w hw p =>
  have e := hstep_seq (M := M) (w := hw) (p := p)
  simp only [mstep]
  split <;> (simp only [preM]; omega)
 case cLeave h ab p a =>
  have e := lstep_seq (M := M) (i := sl h) (ab := ab) (p := p)
  simp only [mstep]
  split <;> (simp only [preM]; omega)
 case done kd a =>
  simp only [mstep, upd_ld]; exact Nat.le_refl _
 case oHelp => exact gen hstep_seq rfl
 case cHelp => exact gen hstep_seq rfl
 case rEnter => exact gen estep_seq rfl
 case wEnter => exact gen estep_seq rfl
 case cEnter => exact gen estep_seq rfl
 case aEnter => exact gen estep_seq rfl
 case sEnter => exact gen estep_seq rfl
 case rLeave => exact gen lstep_seq rfl
 case wLeave => exact gen lstep_seq rfl
 case aLeave => exact gen lstep_seq rfl
 case sLater => exact gen lstep_seq rfl
 case rOwn => exact gen ostep_seq rfl
 case wOwn => exact gen ostep_seq rfl
 case rJoin => exact gen jstep_seq rfl
 case wJoin => exact gen jstep_seq rfl
 case sAged h j num sn => cases sn <;> exact gen (by simp only [mstep, upd_ld]) rfl
 all_goals
  first
  | (refine gen ?_ rfl; simp only [mstep, upd_ld]; done)
  | (refine gen (far ?_) rfl; intro e; cases e; done)
theorem tstep_seq (hr : c.right) (st : TSt) (hm : tOK c id st) : seqN (upd M (tstep c id M st).1.1 (tstep c id M st).1.2) + preT (tstep c id M st).2 ≤ seqN M + preT st := by
 cases st with
 | idle a => simp only [tstep, upd_ld]; exact Nat.le_refl _
 | pinLoad m => simp only [tstep, upd_ld]; exact Nat.le_refl _
 | pinLay e m =>
  simp only [tstep, preT_goesOn]
  rw [seq_far (by intro e; cases e)]
  exact Nat.le_refl _
 | work m =>
  simp only [tstep, preT_goesOn]
  exact mstep_seq hr m hm.1
 | leave kd a =>
  simp only [tstep]
  rw [seq_far (by intro e; cases e)]
  simp only [preT]; omega
end
theorem reach_seq {c : Cfg} {s : Wd} (hr : c.right) (h : Reach c s) : seqN s.M + sumTo (fun t => preT (s.th t)) c.T.toNat ≤ s.evs.length := by
 have fn : ∀ (f : Nat → TSt) (k : Nat) (x : TSt), (fun t => preT (setF f k x t)) = setF (fun t => preT (f t)) k (preT x) := by
  intro f k x
  funext t
  simp only [setF]
  split <;> rfl
 induction h with
 | init =>
  have h0 : ∀ n, sumTo (fun t => preT (w0.th t)) n = 0 := by
   intro n
   induction n with
   | zero => rfl
   | succ n ih => simp only [sumTo, ih]; rfl
  rw [h0]; exact Nat.le_refl _
 | @start s id kd x k hid hh _ ih =>
  have hid' : id < c.T.toNat := by omega
  unfold wstart
  cases hs : s.th id with
  | idle a =>
   by_cases hk : 1 ≤ kd ∧ kd ≤ 6
   ·have e : tstart c kd x k (.idle a) = (true, .pinLoad (begins c kd x k)) := tstart_yes _ _ _ _ _ hk.1 hk.2
    rw [e]
    simp only [fn, List.length_append, List.length_cons, List.length_nil]
    have h1 := sumTo_set (fun t => preT (s.th t)) (x := preT (.pinLoad (begins c kd x k))) hid'
    have h2 : preT (s.th id) = 0 := by rw [hs]; rfl
    have h3 := preM_le (begins c kd x k)
    have h4 : preT (.pinLoad (begins c kd x k)) = preM (begins c kd x k) := rfl
    simp only [h2, h4] at h1 ⊢
    omega
   ·have e : tstart c kd x k (.idle a) = (false, .idle a) := if_neg hk
    rw [e]
    exact ih
  | _ => exact ih
 | @step s id hid hs ih =>
  have hid' : id < c.T.toNat := by omega
  unfold wstep
  by_cases hi' : isIdle (s.th id) = true
  ·rw [if_pos hi']; exact ih
  rw [if_neg hi']
  simp only [fn, List.length_modify]
  have h1 := sumTo_set (fun t => preT (s.th t)) (x := preT (tstep c id s.M (s.th id)).2) hid'
  have h2 := tstep_seq (M := s.M) hr (s.th id) ((reach_str hr hs).tok id hid)
  omega
def fullM (c : Cfg) (L : Nat) : Mach → Prop
 | .cLeave _ _ _ a => a.e = 6 → c.Q ≤ (L : Int)
 | .done .c a => a.e = 6 → c.Q ≤ (L : Int)
 | _ => True
def fullT (c : Cfg) (L : Nat) : TSt → Prop
 | .pinLoad m => fullM c L m
 | .pinLay _ m => fullM c L m
 | .work m => fullM c L m
 | .leave .c a => a.e = 6 → c.Q ≤ (L : Int)
 | _ => True
theorem fullM_mono {c : Cfg} {L L' : Nat} (h : L ≤ L') {m : Mach} (k : fullM c L m) : fullM c L' m := by
 cases m
 case cLeave h' ab p a => exact fun e => by have := k e; omega
 case done kd a => cases kd <;> first | trivial | exact fun e => by have := k e; omega
 all_goals trivial
theorem fullT_mono {c : Cfg} {L L' : Nat} (h : L ≤ L') {st : TSt} (k : fullT c L st) : fullT c L' st := by
 cases st with
 | leave kd a => cases kd <;> first | trivial | exact fun e => by have := k e; omega
 | idle a => trivial
 | pinLoad m => exact fullM_mono h k
 | pinLay e m => exact fullM_mono h k
 | work m => exact fullM_mono h k
theorem fullM_begins {c : Cfg} {L : Nat} {kind : Int} {h : Nat} {k : Int} : fullM c L (begins c kind h k) := by
 unfold begins
 repeat' split
 all_goals first | trivial | (intro e; simp at e)
theorem fullT_goesOn {c : Cfg} {L : Nat} {m : Mach} (h : fullM c L m) : fullT c L (goesOn m) := by
 cases m <;> first | exact h | (rename_i kd a; cases kd <;> exact h)
theorem mstep_full {c : Cfg} {M : Mm} {id L : Nat} (m : Mach) (h : fullM c L m) (hs : seqN M ≤ L) : fullM c L (mstep c id M m).2 := by
 have go : ∀ {i : Nat}, fullM c L (oGoes c i) := by intro i; unfold oGoes; split <;> trivial
 have rn : ∀ {x k n : Nat} (r : List Nat), fullM c L (rNext x k n r) := by intro x k n r; cases r <;> trivial
 have wn : ∀ {x k n : Nat} (r : List Nat), fullM c L (wNext x k n r) := by intro x k n r; cases r <;> trivial
 have wg : ∀ {x k n w : Nat} (r : List Nat), fullM c L (wGoes x k n w r) := by
  intro x k n w r
  cases r with
  | nil =>
   simp only [wGoes]
   split
   ·exact wn _
   ·trivial
  | cons j r => trivial
 cases m
 case cCount x =>
  simp only [mstep]
  split
  ·trivial
  ·split
   ·rename_i h2; intro _; unfold seqN at hs; omega
   ·trivial
 case cEnter x p =>
  simp only [mstep]
  split
  ·rename_i e; intro e2; have e3 := estep_no e; simp only at e2; omega
  ·trivial
  ·trivial
 case cDoom x s =>
  simp only [mstep]
  split
  ·intro e; simp at e
  ·trivial
 case cNote x w hw p =>
  simp only [mstep]
  split
  ·trivial
  ·intro e; simp at e
 case cLeave x ab p a =>
  simp only [mstep]
  split <;> exact h
 case done kd a => exact h
 case sAged x j num sn =>
  cases sn <;> simp only [mstep, sAges] <;> repeat' split
  all_goals trivial
 all_goals
  simp only [mstep, rFound, wFound, sAges, sGraces, sGoes, sKey, sOther]
  repeat' split
  all_goals first | trivial | exact go | exact rn _ | exact wn _ | exact wg _
theorem reach_full {c : Cfg} {s : Wd} (hr : c.right) (h : Reach c s) : (∀ t : Nat, (t : Int) < c.T → fullT c s.evs.length (s.th t)) ∧ ∀ (j : Nat) (ev : Ev), s.evs[j]? = some ev → ev.dn = true → ev.kd = 4 → ev.a.e = 6 → c.Q ≤ (s.evs.length : Int) := by
 induction h with
 | init => exact ⟨fun t _ => trivial, fun j ev h => by simp [w0] at h⟩
 | @start s id kd x k hid hh hs ih =>
  unfold wstart
  cases hs : s.th id with
  | idle a =>
   by_cases hk : 1 ≤ kd ∧ kd ≤ 6
   ·have e : tstart c kd x k (.idle a) = (true, .pinLoad (begins c kd x k)) := tstart_yes _ _ _ _ _ hk.1 hk.2
    rw [e]
    refine ⟨fun t ht => ?_, fun j ev hj hd h4 h6 => ?_⟩
    ·simp only [setF, List.length_append, List.length_cons, List.length_nil]
     split
     ·exact fullM_begins
     ·exact fullT_mono (by omega) (ih.1 t ht)
    ·simp only [List.getElem?_append] at hj
     simp only [List.length_append, List.length_cons, List.length_nil]
     split at hj
     ·have := ih.2 j ev hj hd h4 h6; omega
     ·cases hj' : j - s.evs.length with
      | zero => rw [hj'] at hj; simp at hj; subst hj; cases hd
      | succ n => rw [hj'] at hj; simp at hj
   ·have e : tstart c kd x k (.idle a) = (false, .idle a) := if_neg hk
    rw [e]
    exact ih
  | _ => exact ih
 | @step s id hid hs ih =>
  have hst := reach_str hr hs
  have hsq : seqN s.M ≤ s.evs.length := by have := reach_seq hr hs; omega
  unfold wstep
  by_cases hi' : isIdle (s.th id) = true
  ·rw [if_pos hi']; exact ih
  rw [if_neg hi']
  have hi : isIdle (s.th id) = false := by simpa using hi'
  obtain ⟨ev0, he1, he2, he3⟩ := hst.at_ id hid hi
  have hop := (hst.run _ ev0 he1 he2).2.2.1
  rw [he3] at hop
  refine ⟨fun t ht => ?_, fun j ev hj hd h4 h6 => ?_⟩
  ·simp only [setF, List.length_modify]
   by_cases e : t = id
   ·rw [if_pos e]
    subst e
    have h0 := ih.1 t ht
    cases hh : s.th t with
    | idle a => rw [hh] at hi; cases hi
    | pinLoad m => rw [hh] at h0; exact h0
    | pinLay e m => rw [hh] at h0; exact fullT_goesOn h0
    | work m => rw [hh] at h0; exact fullT_goesOn (mstep_full m h0 hsq)
    | leave kd a => trivial
   ·rw [if_neg e]; exact ih.1 t ht
  ·simp only [List.length_modify]
   rw [modify_at] at hj
   by_cases e : s.at_ id = j
   ·rw [if_pos e, ← e, he1] at hj
    simp only [Option.map_some, Option.some.injEq] at hj
    subst hj
    cases hst2 : (tstep c id s.M (s.th id)).2 with
    | idle a =>
     obtain ⟨kd', hl⟩ := idle_step hi hst2
     rw [hst2] at h4 h6
     have h0 := ih.1 id hid
     rw [hl] at h0 hop
     have hk : kd' = .c := Kd.num_inj ((hop.symm.trans h4) : kd'.num = Kd.c.num)
     subst hk
     exact h0 h6
    | _ => rw [hst2] at hd; simp only [evStep] at hd; rw [he2] at hd; cases hd
   ·rw [if_neg e] at hj
    exact ih.2 j ev hj hd h4 h6
def mk (M : Mm) (κ kd i : Nat) : Prop := Ma.hasW (M (.key κ)) (kd : Int) (i : Int) = true
def mid (s : Nat) : Prop := 2 ≤ s ∧ s ≤ 6
section
variable {c : Cfg} {M : Mm} {id : Nat}
theorem mk_far {s : Spot} {v κ kd i : Nat} (h : s ≠ .key κ) : mk (upd M s v) κ kd i ↔ mk M κ kd i := by
 unfold mk; rw [upd_ne M v (Ne.symm h)]
theorem step_st (hr : c.right) (m : Mach) (hm : mOK c id m) (hw : wdOK m) (ho : ownR M m) (i : Nat) :
  mid (sS (upd M (mstep c id M m).1.1 (mstep c id M m).1.2) i) ∨ ¬ mid (sS M i) ∨ ∃ h w, m = .sClosed h w ∧ sl h = i ∧ M (.status i) = w := by
 have t12 : ∀ {h : Nat}, tk c h → sl h < 12 := fun k => by have := tk_of k; omega
 have same : ∀ {M' : Mm}, Same3 M M' i → mid (sS M' i) ∨ ¬ mid (sS M i) := by
  intro M' h
  rcases h.2.2 with e | ⟨e1, e2⟩
  ·rw [e]; by_cases h : mid (sS M i)
   ·exact .inl h
   ·exact .inr h
  ·exact .inl (by unfold mid; omega)
 have same' : ∀ {M' : Mm}, Same3 M M' i → mid (sS M' i) ∨ ¬ mid (sS M i) ∨ ∃ h w, m = .sClosed h w ∧ sl h = i ∧ M (.status i) = w := by
  intro M' h
  rcases same h with h | h
  ·exact .inl h
  ·exact .inr (.inl h)
 -- a status word moved
 have mv : ∀ {j s x : Nat} {b : Bool}, x < 8 → (mid x ∨ ¬ mid (stOf s)) → mid (sS (upd M (cas M (.status j) s (St.moveN s x b)).1 (cas M (.status j) s (St.moveN s x b)).2) i) ∨ ¬ mid (sS M i) := by
  intro j s x b hx h
  by_cases e : M (.status j) = s
  ·rw [cas_hit _ _ e]
   by_cases e2 : j = i
   ·subst e2
    simp only [sS, upd_at, e]
    rw [st_move _ _ _ hx]
    rcases h with h | h
    ·exact .inl h
    ·exact .inr h
   ·exact same (.far (by intro e3; cases e3; exact e2 rfl))
  ·rw [cas_miss _ _ e]; exact same (.refl _ _)
 have lift : ∀ {M' : Mm}, (mid (sS M' i) ∨ ¬ mid (sS M i)) → mid (sS M' i) ∨ ¬ mid (sS M i) ∨ ∃ h w, m = .sClosed h w ∧ sl h = i ∧ M (.status i) = w := by
  intro M' h
  rcases h with h | h
  ·exact .inl h
  ·exact .inr (.inl h)
 have en : ∀ {h : Nat} {ok : Nat → Bool} {p : EP}, mid (sS (upd M (estep M h ok p).1.1 (estep M h ok p).1.2) i) ∨ ¬ mid (sS M i) := by
  intro h ok p
  cases p with
  | look => rw [show (estep M h ok .look).1 = ld M _ from rfl, upd_ld]; exact same (.refl _ _)
  | swap s =>
   refine mv (stOf_lt s) ?_
   by_cases h : mid (stOf s)
   ·exact .inl h
   ·exact .inr h
 have lv : ∀ {j : Nat} {ab : Bool} {p : EP}, mid (sS (upd M (lstep M j ab p).1.1 (lstep M j ab p).1.2) i) ∨ ¬ mid (sS M i) := by
  intro j ab p
  cases p with
  | look => rw [show (lstep M j ab .look).1 = ld M _ from rfl, upd_ld]; exact same (.refl _ _)
  | swap s =>
   cases ab
   ·refine mv (x := stOf s) (stOf_lt s) ?_
    by_cases h : mid (stOf s)
    ·exact .inl h
    ·exact .inr h
   ·exact mv (x := 5) (by omega) (.inl ⟨by omega, by omega⟩)
 cases m
 case oTake j s => exact lift (mv (by omega) (.inr (by have : stOf s = 0 := hw; unfold mid; omega)))
 case oStart j s q =>
  simp only [mstep]
  by_cases e2 : j = i
  ·subst e2
   left
   simp only [sS, upd_at]
   rw [st_move _ _ _ (by omega)]
   exact ⟨by omega, by omega⟩
  ·exact same' (.far (by intro e3; cases e3; exact e2 rfl))
 case oHelp j s w p => exact same' (hstep_same hw.2)
 case cHelp h w p => exact same' (hstep_same hw)
 case cNote h w hw' p => exact same' (hstep_same hw)
 case rEnter => exact lift en
 case wEnter => exact lift en
 case cEnter => exact lift en
 case aEnter => exact lift en
 case sEnter => exact lift en
 case rLeave => exact lift lv
 case wLeave => exact lift lv
 case cLeave => exact lift lv
 case aLeave => exact lift lv
 case sLater => exact lift lv
 case rJoin h k n j r p => exact same' (jstep_same (k := 1) (by omega) (t12 hm.1))
 case wJoin h k n j r p => exact same' (jstep_same (k := 0) (by omega) (t12 hm.1))
 case rOwn h k n j r p =>
  have hj : j < 12 := by obtain ⟨a1, a2, a3, a4, _⟩ := hr; have := hm.2.2.2.1 j (List.mem_cons_self ..); omega
  exact same' (ostep_same (k := 0) (by omega) hj)
 case wOwn h k n j r p =>
  have hj : j < 12 := by obtain ⟨a1, a2, a3, a4, _⟩ := hr; have := hm.2.2.2.1 j (List.mem_cons_self ..); omega
  exact same' (ostep_same (k := 1) (by omega) hj)
 case cDoom h s => exact lift (mv (x := 5) (by omega) (.inl ⟨by omega, by omega⟩))
 case cPromise h s => exact lift (mv (x := 3) (by omega) (.inl ⟨by omega, by omega⟩))
 case sDead h w => exact lift (mv (x := 6) (by omega) (.inl ⟨by omega, by omega⟩))
 case sPart h j n w => exact same' (drop_same (t12 hm.1))
 case sClosed h w =>
  by_cases e : M (.status (sl h)) = w
  ·by_cases e2 : sl h = i
   ·exact .inr (.inr ⟨h, w, rfl, e2, by rw [← e2]; exact e⟩)
   ·exact same' (.far (by intro e3; cases e3; exact e2 rfl))
  ·simp only [mstep, cas_miss _ _ e]; exact same' (.refl _ _)
 case sFree h =>
  simp only [mstep]
  by_cases e2 : sl h = i
  ·subst e2
   right; left
   have := ho.2.2
   unfold mid; omega
  ·exact same' (.far (by intro e3; cases e3; exact e2 rfl))
 case sAged h j num sn => cases sn <;> (simp only [mstep, upd_ld]; exact same' (.refl _ _))
 all_goals
  first
  | (simp only [mstep, upd_ld]; exact same' (.refl _ _))
  | (refine same' (.far ?_); intro e; cases e; done)
theorem step_mk (hr : c.right) (m : Mach) (hm : mOK c id m) {κ kd i : Nat} (hk : kd ≤ 1) (h : mk (upd M (mstep c id M m).1.1 (mstep c id M m).1.2) κ kd i) :
  mk M κ kd i ∨ (slotOf m = some i ∧ ((∃ h n w, m = .rMark h κ n w ∧ M (.key κ) = w ∧ kd = 0) ∨ (∃ h n w, m = .wMark h κ n w ∧ M (.key κ) = w ∧ kd = 1))) := by
 have t12 : ∀ {h : Nat}, tk c h → sl h < 12 := fun k => by have := tk_of k; omega
 have far : ∀ {s : Spot} {v : Nat}, mk (upd M s v) κ kd i → s ≠ .key κ → mk M κ kd i := fun h1 h2 => (mk_far h2).1 h1
 cases m
 case rMark x k n w =>
  have h' : mk (upd M (cas M (.key k) w (Ma.withW w 0 (sl x : Int))).1 (cas M (.key k) w (Ma.withW w 0 (sl x : Int))).2) κ kd i := h
  by_cases e : M (.key k) = w
  ·rw [cas_hit _ _ e] at h'
   by_cases e2 : k = κ
   ·subst e2
    unfold mk at h'
    rw [upd_at] at h'
    rcases hasM_with w 0 (sl x) kd i (by omega) (t12 hm.1) hk h' with h1 | ⟨h1, h2⟩
    ·left; unfold mk; rw [e]; exact h1
    ·right; subst h2; exact ⟨rfl, .inl ⟨x, n, w, rfl, e, h1⟩⟩
   ·exact .inl (far h' (by intro e3; cases e3; exact e2 rfl))
  ·rw [cas_miss _ _ e] at h'; exact .inl h'
 case wMark x k n w =>
  have h' : mk (upd M (cas M (.key k) w (Ma.withW w 1 (sl x : Int))).1 (cas M (.key k) w (Ma.withW w 1 (sl x : Int))).2) κ kd i := h
  by_cases e : M (.key k) = w
  ·rw [cas_hit _ _ e] at h'
   by_cases e2 : k = κ
   ·subst e2
    unfold mk at h'
    rw [upd_at] at h'
    rcases hasM_with w 1 (sl x) kd i (by omega) (t12 hm.1) hk h' with h1 | ⟨h1, h2⟩
    ·left; unfold mk; rw [e]; exact h1
    ·right; subst h2; exact ⟨rfl, .inr ⟨x, n, w, rfl, e, h1⟩⟩
   ·exact .inl (far h' (by intro e3; cases e3; exact e2 rfl))
  ·rw [cas_miss _ _ e] at h'; exact .inl h'
 case sUnmark x k w =>
  left
  have h' : mk (upd M (cas M (.key k) w (Ma.dropW w (sl x : Int))).1 (cas M (.key k) w (Ma.dropW w (sl x : Int))).2) κ kd i := h
  by_cases e : M (.key k) = w
  ·rw [cas_hit _ _ e] at h'
   by_cases e2 : k = κ
   ·subst e2
    unfold mk at h' ⊢
    rw [upd_at] at h'
    rw [e]
    exact (hasM_drop w (sl x) kd i (t12 hm.1) hk h').1
   ·exact far h' (by intro e3; cases e3; exact e2 rfl)
  ·rw [cas_miss _ _ e] at h'; exact h'
 case sAged x j num sn => cases sn <;> (simp only [mstep, upd_ld] at h; exact .inl h)
 all_goals
  left
  first
  | (simp only [mstep, upd_ld] at h; exact h)
  | (refine far h ?_; intro e; cases e; done)
  | (refine far h ?_; rename_i p; cases p <;> (intro e; cases e))
  | (refine far h ?_; rename_i p _; cases p <;> (intro e; cases e))
  | (refine far h ?_; rename_i p a; cases p <;> (intro e; cases e))
end
def clearR (c : Cfg) (M : Mm) : Mach → Prop
 | .sKeys h k => ∀ κ kd, κ < k → kd ≤ 1 → ¬ mk M κ kd (sl h)
 | .sUnmark h k _ => ∀ κ kd, κ < k → kd ≤ 1 → ¬ mk M κ kd (sl h)
 | .sPast h => ∀ κ kd : Nat, (κ : Int) < c.K → kd ≤ 1 → ¬ mk M κ kd (sl h)
 | .sOthers h _ _ => ∀ κ kd : Nat, (κ : Int) < c.K → kd ≤ 1 → ¬ mk M κ kd (sl h)
 | .sPart h _ _ _ => ∀ κ kd : Nat, (κ : Int) < c.K → kd ≤ 1 → ¬ mk M κ kd (sl h)
 | .sClose h => ∀ κ kd : Nat, (κ : Int) < c.K → kd ≤ 1 → ¬ mk M κ kd (sl h)
 | .sClosed h _ => ∀ κ kd : Nat, (κ : Int) < c.K → kd ≤ 1 → ¬ mk M κ kd (sl h)
 | _ => True
def clearT (c : Cfg) (M : Mm) : TSt → Prop
 | .work m => clearR c M m
 | _ => True
structure MkI (c : Cfg) (s : Wd) : Prop where
 at_ : ∀ κ kd i : Nat, (κ : Int) < c.K → kd ≤ 1 → mk s.M κ kd i → mid (sS s.M i)
 clear : ∀ t : Nat, (t : Int) < c.T → clearT c s.M (s.th t)
theorem clearR_keep {c : Cfg} {M M' : Mm} {m : Mach} (h : clearR c M m) (hs : ∀ i κ kd, slotOf m = some i → kd ≤ 1 → mk M' κ kd i → mk M κ kd i) : clearR c M' m := by
 cases m
 all_goals first | trivial | exact fun κ kd h1 h2 h3 => h κ kd h1 h2 (hs _ κ kd rfl h2 h3)
theorem clear_own {c : Cfg} {M : Mm} {id : Nat} (hr : c.right) (m : Mach) (hm : mOK c id m) (h : clearR c M m) : clearR c (upd M (mstep c id M m).1.1 (mstep c id M m).1.2) (mstep c id M m).2 := by
 have t12 : ∀ {h : Nat}, tk c h → sl h < 12 := fun k => by have := tk_of k; omega
 have keyE : ∀ {M' : Mm} {x k : Nat}, (∀ κ kd, κ < k → kd ≤ 1 → ¬ mk M' κ kd (sl x)) → clearR c M' (sKey c x k) := by
  intro M' x k h
  unfold sKey
  split
  ·exact h
  ·rename_i hk
   intro κ kd h1 h2
   exact h κ kd (by omega) h2
 have othE : ∀ {M' : Mm} {x j n : Nat}, (∀ κ kd : Nat, (κ : Int) < c.K → kd ≤ 1 → ¬ mk M' κ kd (sl x)) → clearR c M' (sOther c x j n) := by
  intro M' x j n h
  unfold sOther
  split <;> exact h
 cases m
 case sGrace x cl j r =>
  simp only [mstep, upd_ld]
  split
  ·trivial
  ·unfold sGraces; split
   ·trivial
   ·cases cl
    ·exact fun κ kd h => by omega
    ·trivial
 case sNote x cl r =>
  simp only [mstep]
  unfold sGraces; split
  ·trivial
  ·cases cl
   ·exact fun κ kd h => by omega
   ·trivial
 case sRetired x cl =>
  simp only [mstep, upd_ld]
  unfold sGraces; split
  ·trivial
  ·cases cl
   ·exact fun κ kd h => by omega
   ·trivial
 case sKeys x k =>
  simp only [mstep, upd_ld]
  split
  ·rename_i e
   refine keyE fun κ kd h1 h2 h3 => ?_
   by_cases e2 : κ = k
   ·subst e2
    unfold mk at h3
    rw [dropM_same _ _ kd (t12 hm.1) h2 e] at h3
    cases h3
   ·exact h κ kd (by omega) h2 h3
  ·exact h
 case sUnmark x k w =>
  by_cases e : M (.key k) = w
  ·have e1 : (mstep c id M (.sUnmark x k w)).2 = sKey c x (k + 1) := by simp only [mstep]; rw [if_pos e]
   rw [e1]
   refine keyE fun κ kd h1 h2 h3 => ?_
   have h3' : mk (upd M (cas M (.key k) w (Ma.dropW w (sl x : Int))).1 (cas M (.key k) w (Ma.dropW w (sl x : Int))).2) κ kd (sl x) := h3
   rw [cas_hit _ _ e] at h3'
   by_cases e2 : κ = k
   ·subst e2
    unfold mk at h3'
    rw [upd_at] at h3'
    exact (hasM_drop w (sl x) kd (sl x) (t12 hm.1) h2 h3').2 rfl
   ·exact h κ kd (by omega) h2 ((mk_far (by intro e3; cases e3; exact e2 rfl)).1 h3')
  ·have e1 : (mstep c id M (.sUnmark x k w)).2 = .sKeys x k := by simp only [mstep]; rw [if_neg e]
   rw [e1]
   have e2 : upd M (mstep c id M (.sUnmark x k w)).1.1 (mstep c id M (.sUnmark x k w)).1.2 = M := cas_miss _ _ e
   rw [e2]
   exact h
 case sPast x => simp only [mstep, upd_ld]; exact othE h
 case sOthers x j n =>
  simp only [mstep, upd_ld]
  split
  ·exact othE h
  ·exact h
 case sPart x j n w =>
  have h' : ∀ κ kd : Nat, (κ : Int) < c.K → kd ≤ 1 → ¬ mk (upd M (cas M (.status j) w (St.dropW w (sl x : Int) (nzb n))).1 (cas M (.status j) w (St.dropW w (sl x : Int) (nzb n))).2) κ kd (sl x) := fun κ kd h1 h2 h3 => h κ kd h1 h2 ((mk_far (by intro e; cases e)).1 h3)
  simp only [mstep]
  split
  ·exact othE h'
  ·exact h'
 case sClose x => simp only [mstep, upd_ld]; exact h
 case sClosed x w =>
  by_cases e : M (.status (sl x)) = w
  ·have e1 : (mstep c id M (.sClosed x w)).2 = .sTick x true := by simp only [mstep]; rw [if_pos e]
   rw [e1]; trivial
  ·have e1 : (mstep c id M (.sClosed x w)).2 = .sClose x := by simp only [mstep]; rw [if_neg e]
   rw [e1]
   have e2 : upd M (mstep c id M (.sClosed x w)).1.1 (mstep c id M (.sClosed x w)).1.2 = M := cas_miss _ _ e
   rw [e2]
   exact h
 case sAged x j num sn =>
  cases sn <;> simp only [mstep, sAges] <;> repeat' split
  all_goals trivial
 all_goals
  simp only [mstep, oGoes, rFound, wFound, sAges]
  repeat' split
  all_goals first | trivial | (simp only [rNext]; split <;> trivial) | (simp only [wNext]; split <;> trivial) | (simp only [wGoes, wFound, wNext]; repeat' split) <;> trivial
theorem clear_goesOn {c : Cfg} {M : Mm} {m : Mach} (h : clearR c M m) : clearT c M (goesOn m) := by cases m <;> first | exact h | trivial
theorem clear_none {c : Cfg} {M : Mm} {m : Mach} (h : slotOf m = none) : clearR c M m := by
 cases m <;> first | trivial | (simp only [slotOf, reduceCtorEq] at h)
theorem mk_start {c : Cfg} {s : Wd} (h : MkI c s) (id : Nat) (kd : Int) (x : Nat) (k : Int) : MkI c (wstart c s id kd x k).2 := by
 unfold wstart
 cases hs : s.th id with
 | idle a =>
  by_cases hk : 1 ≤ kd ∧ kd ≤ 6
  ·have e : tstart c kd x k (.idle a) = (true, .pinLoad (begins c kd x k)) := tstart_yes _ _ _ _ _ hk.1 hk.2
   rw [e]
   refine ⟨h.at_, fun t ht => ?_⟩
   simp only [setF]
   split
   ·trivial
   ·exact h.clear t ht
  ·have e : tstart c kd x k (.idle a) = (false, .idle a) := if_neg hk
   rw [e]
   exact h
 | _ => exact h
theorem tstep_mk {c : Cfg} {M : Mm} {id : Nat} (hr : c.right) (st : TSt) (hm : tOK c id st) {κ kd i : Nat} (hk : kd ≤ 1) (h : mk (upd M (tstep c id M st).1.1 (tstep c id M st).1.2) κ kd i) :
  mk M κ kd i ∨ (slotT st = some i ∧ ∃ m, st = .work m ∧ ((∃ h n w, m = .rMark h κ n w ∧ M (.key κ) = w ∧ kd = 0) ∨ (∃ h n w, m = .wMark h κ n w ∧ M (.key κ) = w ∧ kd = 1))) := by
 cases st with
 | idle a => simp only [tstep, upd_ld] at h; exact .inl h
 | pinLoad m => simp only [tstep, upd_ld] at h; exact .inl h
 | pinLay e m => exact .inl ((mk_far (by intro e; cases e)).1 h)
 | work m =>
  rcases step_mk hr m hm.1 hk h with h1 | ⟨h1, h2⟩
  ·exact .inl h1
  ·exact .inr ⟨h1, m, rfl, h2⟩
 | leave kd' a => exact .inl ((mk_far (by intro e; cases e)).1 h)
theorem mk_step {c : Cfg} {s : Wd} (hr : c.right) (hst : Str c s) (ho : OwnI c s) (h : MkI c s) (id : Nat) (hid : (id : Int) < c.T) : MkI c (wstep c s id).2 := by
 unfold wstep
 by_cases hi' : isIdle (s.th id) = true
 ·rw [if_pos hi']; exact h
 rw [if_neg hi']
 have hm := hst.tok id hid
 have hw := hst.wd id hid
 have h0 := ho.own id hid
 have hc0 := h.clear id hid
 refine ⟨fun κ kd i hκ hkd hmk => ?_, fun t ht => ?_⟩
 ·rcases tstep_mk hr _ hm hkd hmk with h1 | ⟨h1, m, h2, h3⟩
  ·have hmid := h.at_ κ kd i hκ hkd h1
   have far : ∀ {sp : Spot} {v : Nat}, sp ≠ .status i → mid (sS (upd s.M sp v) i) := by
    intro sp v hne
    have e : upd s.M sp v (.status i) = s.M (.status i) := upd_ne _ _ (Ne.symm hne)
    simp only [sS, e]; exact hmid
   cases hth : s.th id with
   | idle a => simp only [tstep, upd_ld]; exact hmid
   | pinLoad m => simp only [tstep, upd_ld]; exact hmid
   | pinLay e m => exact far (by intro e; cases e)
   | leave kd a => exact far (by intro e; cases e)
   | work m =>
    rw [hth] at hm hw h0 hc0
    rcases step_st (id := id) hr m hm.1 hw h0 i with h4 | h4 | ⟨x, w, h4, h5, h6⟩
    ·exact h4
    ·exact (h4 hmid).elim
    ·subst h4
     exact (hc0 κ kd hκ hkd (by rw [h5]; exact h1)).elim
  ·rw [h2] at h0 h1 ⊢
   have keep : ∀ {k v : Nat}, sS (upd s.M (.key k) v) i = sS s.M i := by
    intro k v
    simp only [sS]
    rw [upd_ne _ _ (by intro e; cases e)]
   rcases h3 with ⟨x, n, w, rfl, e, rfl⟩ | ⟨x, n, w, rfl, e, rfl⟩
   ·have h4 : sl x = i := by simpa [slotT, slotOf] using h1
    have h5 := h0.2.2
    rw [h4] at h5
    show mid (sS (upd s.M (.key κ) _) i)
    rw [keep]
    exact ⟨by omega, by omega⟩
   ·have h4 : sl x = i := by simpa [slotT, slotOf] using h1
    have h5 := h0.2.2
    rw [h4] at h5
    show mid (sS (upd s.M (.key κ) _) i)
    rw [keep]
    exact ⟨by omega, by omega⟩
 ·simp only [setF]
  by_cases e : t = id
  ·rw [if_pos e]
   cases hth : s.th id with
   | idle a => trivial
   | pinLoad m => trivial
   | pinLay e m =>
    rw [hth] at h0
    exact clear_goesOn (clear_none h0)
   | work m =>
    rw [hth] at hm hc0
    exact clear_goesOn (clear_own hr m hm.1 hc0)
   | leave kd a => trivial
  ·rw [if_neg e]
   have h1 := h.clear t ht
   cases hth : s.th t with
   | work m =>
    rw [hth] at h1
    refine clearR_keep h1 fun i κ kd hi hkd hmk => ?_
    rcases tstep_mk hr _ hm hkd hmk with h2 | ⟨h2, _⟩
    ·exact h2
    ·exact (ho.uniq t id ht hid e i (by rw [hth]; exact hi) h2).elim
   | _ => trivial
theorem reach_mk {c : Cfg} {s : Wd} (hr : c.right) (h : Reach c s) : MkI c s := by
 induction h with
 | init =>
  refine ⟨fun κ kd i _ hk h => ?_, fun t _ => trivial⟩
  unfold mk at h
  simp only [w0] at h
  by_cases hj : i < 12
  ·rw [hasM_bit _ _ _ hk hj] at h; simp at h
  ·rw [hasM_far _ _ _ (by omega)] at h; cases h
 | start id kd x k hid hh _ ih => exact mk_start ih id kd x k
 | step id hid hs ih => exact mk_step hr (reach_str hr hs) (reach_own hr hs) ih id hid
def holds : Mach → Nat → Prop
 | .rJoin _ _ _ j r _, x => x ∈ j :: r
 | .rOwn _ _ _ _ r _, x => x ∈ r
 | .wRival h _ _ w j r, x => x ∈ j :: r ∨ Ma.hasW w 1 (sl h : Int) = true ∧ x ∈ otherN w 0 (sl h)
 | .wNumber h _ _ w j r, x => x ∈ j :: r ∨ Ma.hasW w 1 (sl h : Int) = true ∧ x ∈ otherN w 0 (sl h)
 | .wJoin _ _ _ j r _, x => x ∈ j :: r
 | .wOwn _ _ _ _ r _, x => x ∈ r
 | _, _ => False
def holdT : TSt → Nat → Prop
 | .work m, x => holds m x
 | _, _ => False
theorem holds_goesOn {m : Mach} {x : Nat} : holdT (goesOn m) x ↔ holds m x := by cases m <;> exact Iff.rfl
theorem rNext_holds {h k n x : Nat} {r : List Nat} (e : holds (rNext h k n r) x) : x ∈ r := by
 cases r with
 | nil => exact e.elim
 | cons j r => exact e
theorem wNext_holds {h k n x : Nat} {r : List Nat} (e : holds (wNext h k n r) x) : x ∈ r := by
 cases r with
 | nil => exact e.elim
 | cons j r => exact e
theorem wGoes_holds {h k n w x : Nat} {r : List Nat} (e : holds (wGoes h k n w r) x) : x ∈ r ∨ Ma.hasW w 1 (sl h : Int) = true ∧ x ∈ otherN w 0 (sl h) := by
 cases r with
 | nil =>
  simp only [wGoes] at e
  split at e
  ·rename_i h1; exact .inr ⟨h1, wNext_holds e⟩
  ·exact e.elim
 | cons j r => exact e
theorem step_holds {c : Cfg} {M : Mm} {id : Nat} (m : Mach) (hm : mOK c id m) {x : Nat} (e : holds (mstep c id M m).2 x) : holds m x ∨ ∃ κ kd : Nat, (κ : Int) < c.K ∧ kd ≤ 1 ∧ mk M κ kd x := by
 have seen : ∀ {w i k kd : Nat}, M (.key k) = w → (k : Int) < c.K → kd ≤ 1 → x ∈ otherN w (kd : Int) i → ∃ κ kd : Nat, (κ : Int) < c.K ∧ kd ≤ 1 ∧ mk M κ kd x := by
  intro w i k kd e hk hkd hx
  refine ⟨k, kd, hk, hkd, ?_⟩
  unfold mk; rw [e]
  exact (mem_other.1 hx).2.1
 cases m
 case rLook h k n =>
  simp only [mstep] at e
  split at e
  ·exact .inr (seen (kd := 1) rfl hm.2.1 (by omega) (rNext_holds e))
  ·exact e.elim
 case rMark h k n w =>
  simp only [mstep] at e
  split at e
  ·rename_i h1; exact .inr (seen (kd := 1) h1 hm.2.1 (by omega) (rNext_holds e))
  ·exact e.elim
 case rJoin h k n j r p =>
  left
  simp only [mstep] at e
  split at e
  ·exact e
  ·exact List.mem_cons_of_mem _ (rNext_holds e)
  ·exact List.mem_cons_of_mem _ e
  ·exact e.elim
 case rOwn h k n j r p =>
  left
  simp only [mstep] at e
  split at e
  ·exact e
  ·exact rNext_holds e
 case wLook h k n =>
  simp only [mstep] at e
  right
  rcases wGoes_holds e with h1 | ⟨_, h1⟩
  ·exact seen (kd := 1) rfl hm.2.1 (by omega) h1
  ·exact seen (kd := 0) rfl hm.2.1 (by omega) h1
 case wRival h k n w j r =>
  left
  simp only [mstep] at e
  split at e
  ·exact e.elim
  ·split at e
   ·exact e
   ·rcases wGoes_holds e with h1 | h1
    ·exact .inl (List.mem_cons_of_mem _ h1)
    ·exact .inr h1
 case wNumber h k n w j r =>
  left
  simp only [mstep] at e
  split at e
  ·rcases wGoes_holds e with h1 | h1
   ·exact .inl (List.mem_cons_of_mem _ h1)
   ·exact .inr h1
  ·exact e.elim
 case wMark h k n w =>
  simp only [mstep] at e
  split at e
  ·rename_i h1; exact .inr (seen (kd := 0) h1 hm.2.1 (by omega) (wNext_holds e))
  ·exact e.elim
 case wJoin h k n j r p =>
  left
  simp only [mstep] at e
  split at e
  ·exact e
  ·exact List.mem_cons_of_mem _ (wNext_holds e)
  ·exact List.mem_cons_of_mem _ e
  ·exact e.elim
 case wOwn h k n j r p =>
  left
  simp only [mstep] at e
  split at e
  ·exact e
  ·exact wNext_holds e
 case sAged h j num sn =>
  cases sn <;> simp only [mstep, sAges] at e <;> repeat' (split at e)
  all_goals exact e.elim
 all_goals
  simp only [mstep, oGoes, sAges, sGraces, sGoes, sKey, sOther] at e
  repeat' (split at e)
  all_goals exact e.elim
section
variable {c : Cfg} {M : Mm} {id : Nat}
theorem step_pin (m : Mach) (t : Nat) : upd M (mstep c id M m).1.1 (mstep c id M m).1.2 (.pin t) = M (.pin t) := by
 cases m
 case sAged h j num sn => cases sn <;> (simp only [mstep, upd_ld])
 all_goals
  first
  | (simp only [mstep, upd_ld]; done)
  | (refine upd_ne _ _ ?_; intro e; cases e; done)
  | (refine upd_ne _ _ ?_; rename_i p; cases p <;> (intro e; cases e))
  | (refine upd_ne _ _ ?_; rename_i p _; cases p <;> (intro e; cases e))
theorem step_epoch (m : Mach) : upd M (mstep c id M m).1.1 (mstep c id M m).1.2 .epoch = M .epoch ∨ ∃ h cl, m = .sTick h cl ∧ upd M (mstep c id M m).1.1 (mstep c id M m).1.2 .epoch = (M .epoch + 1) % 18446744073709551616 := by
 cases m
 case sTick h cl => exact .inr ⟨h, cl, rfl, upd_at _ _ _⟩
 case sAged h j num sn => cases sn <;> (left; simp only [mstep, upd_ld])
 all_goals
  left
  first
  | (simp only [mstep, upd_ld]; done)
  | (refine upd_ne _ _ ?_; intro e; cases e; done)
  | (refine upd_ne _ _ ?_; rename_i p; cases p <;> (intro e; cases e))
  | (refine upd_ne _ _ ?_; rename_i p _; cases p <;> (intro e; cases e))
theorem step_ret (m : Mach) (i : Nat) : upd M (mstep c id M m).1.1 (mstep c id M m).1.2 (.retired i) = M (.retired i) ∨ ∃ h cl r, m = .sNote h cl r ∧ sl h = i ∧ upd M (mstep c id M m).1.1 (mstep c id M m).1.2 (.retired i) = r := by
 cases m
 case sNote h cl r =>
  by_cases e : sl h = i
  ·subst e; exact .inr ⟨h, cl, r, rfl, rfl, upd_at _ _ _⟩
  ·exact .inl (upd_ne _ _ (by intro e2; cases e2; exact e rfl))
 case sAged h j num sn => cases sn <;> (left; simp only [mstep, upd_ld])
 all_goals
  left
  first
  | (simp only [mstep, upd_ld]; done)
  | (refine upd_ne _ _ ?_; intro e; cases e; done)
  | (refine upd_ne _ _ ?_; rename_i p; cases p <;> (intro e; cases e))
  | (refine upd_ne _ _ ?_; rename_i p _; cases p <;> (intro e; cases e))
theorem step_clear (hr : c.right) (m : Mach) (hm : mOK c id m) (hw : wdOK m) (ho : ownR M m) (i : Nat) :
  (sS (upd M (mstep c id M m).1.1 (mstep c id M m).1.2) i = 7 → sS M i = 7 ∨ ∃ h w, m = .sClosed h w ∧ sl h = i ∧ (mstep c id M m).2 = .sTick h true) ∧
  (sG (upd M (mstep c id M m).1.1 (mstep c id M m).1.2) i = sG M i ∨ ∃ h, m = .sFree h ∧ sl h = i) := by
 have t12 : ∀ {h : Nat}, tk c h → sl h < 12 := fun k => by have := tk_of k; omega
 have same : ∀ {M' : Mm} {m : Mach}, Same3 M M' i → (sS M' i = 7 → sS M i = 7 ∨ ∃ h w, m = .sClosed h w ∧ sl h = i ∧ (mstep c id M m).2 = .sTick h true) ∧ (sG M' i = sG M i ∨ ∃ h, m = .sFree h ∧ sl h = i) := by
  intro M' m h
  refine ⟨fun e => .inl ?_, .inl h.1⟩
  rcases h.2.2 with e1 | ⟨e1, e2⟩ <;> omega
 have sld : ∀ {s : Spot}, Same3 M (upd M (ld M s).1 (ld M s).2) i := by intro s; rw [upd_ld]; exact .refl _ _
 have mv : ∀ {m : Mach} {j s x : Nat} {b : Bool}, x < 8 → (x = 7 → stOf s = 7) → (sS (upd M (cas M (.status j) s (St.moveN s x b)).1 (cas M (.status j) s (St.moveN s x b)).2) i = 7 → sS M i = 7 ∨ ∃ h w, m = .sClosed h w ∧ sl h = i ∧ (mstep c id M m).2 = .sTick h true) ∧ (sG (upd M (cas M (.status j) s (St.moveN s x b)).1 (cas M (.status j) s (St.moveN s x b)).2) i = sG M i ∨ ∃ h, m = .sFree h ∧ sl h = i) := by
  intro m j s x b hx h
  by_cases e : M (.status j) = s
  ·rw [cas_hit _ _ e]
   by_cases e2 : j = i
   ·subst e2
    simp only [sS, sG, upd_at, e]
    rw [st_move _ _ _ hx, gn_move _ _ _ hx]
    exact ⟨fun e => .inl (h e), .inl rfl⟩
   ·exact same (.far (by intro e3; cases e3; exact e2 rfl))
  ·rw [cas_miss _ _ e]; exact same (.refl _ _)
 have en : ∀ {m : Mach} {h : Nat} {ok : Nat → Bool} {p : EP}, (sS (upd M (estep M h ok p).1.1 (estep M h ok p).1.2) i = 7 → sS M i = 7 ∨ ∃ h w, m = .sClosed h w ∧ sl h = i ∧ (mstep c id M m).2 = .sTick h true) ∧ (sG (upd M (estep M h ok p).1.1 (estep M h ok p).1.2) i = sG M i ∨ ∃ h, m = .sFree h ∧ sl h = i) := by
  intro m h ok p
  cases p with
  | look => rw [show (estep M h ok .look).1 = ld M _ from rfl, upd_ld]; exact same (.refl _ _)
  | swap s => exact mv (stOf_lt s) (fun e => e)
 have lv : ∀ {m : Mach} {j : Nat} {ab : Bool} {p : EP}, (sS (upd M (lstep M j ab p).1.1 (lstep M j ab p).1.2) i = 7 → sS M i = 7 ∨ ∃ h w, m = .sClosed h w ∧ sl h = i ∧ (mstep c id M m).2 = .sTick h true) ∧ (sG (upd M (lstep M j ab p).1.1 (lstep M j ab p).1.2) i = sG M i ∨ ∃ h, m = .sFree h ∧ sl h = i) := by
  intro m j ab p
  cases p with
  | look => rw [show (lstep M j ab .look).1 = ld M _ from rfl, upd_ld]; exact same (.refl _ _)
  | swap s =>
   cases ab
   ·exact mv (x := stOf s) (stOf_lt s) (fun e => e)
   ·exact mv (x := 5) (by omega) (fun e => by omega)
 cases m
 case oTake j s => exact mv (by omega) (fun e => by omega)
 case oStart j s q =>
  simp only [mstep]
  by_cases e2 : j = i
  ·subst e2
   simp only [sS, sG, upd_at]
   rw [st_move _ _ _ (by omega), gn_move _ _ _ (by omega)]
   exact ⟨fun e => by omega, .inl ho.2.symm⟩
  ·exact same (.far (by intro e3; cases e3; exact e2 rfl))
 case oHelp j s w p => exact same (hstep_same hw.2)
 case cHelp h w p => exact same (hstep_same hw)
 case cNote h w hw' p => exact same (hstep_same hw)
 case rEnter => exact en
 case wEnter => exact en
 case cEnter => exact en
 case aEnter => exact en
 case sEnter => exact en
 case rLeave => exact lv
 case wLeave => exact lv
 case cLeave => exact lv
 case aLeave => exact lv
 case sLater => exact lv
 case rJoin h k n j r p => exact same (jstep_same (k := 1) (by omega) (t12 hm.1))
 case wJoin h k n j r p => exact same (jstep_same (k := 0) (by omega) (t12 hm.1))
 case rOwn h k n j r p =>
  have hj : j < 12 := by obtain ⟨a1, a2, a3, a4, _⟩ := hr; have := hm.2.2.2.1 j (List.mem_cons_self ..); omega
  exact same (ostep_same (k := 0) (by omega) hj)
 case wOwn h k n j r p =>
  have hj : j < 12 := by obtain ⟨a1, a2, a3, a4, _⟩ := hr; have := hm.2.2.2.1 j (List.mem_cons_self ..); omega
  exact same (ostep_same (k := 1) (by omega) hj)
 case cDoom h s => exact mv (x := 5) (by omega) (fun e => by omega)
 case cPromise h s => exact mv (x := 3) (by omega) (fun e => by omega)
 case sDead h w => exact mv (x := 6) (by omega) (fun e => by omega)
 case sPart h j n w => exact same (drop_same (t12 hm.1))
 case sClosed h w =>
  by_cases e : M (.status (sl h)) = w
  ·by_cases e2 : sl h = i
   ·refine ⟨fun _ => .inr ⟨h, w, rfl, e2, by simp only [mstep]; rw [if_pos e]⟩, .inl ?_⟩
    simp only [mstep, cas_hit _ _ e]
    rw [← e2]
    simp only [sG, upd_at, e]
    exact gn_move _ _ _ (by omega)
   ·exact same (.far (by intro e3; cases e3; exact e2 rfl))
  ·have e2 : Same3 M (upd M (cas M (.status (sl h)) w (St.moveN w 7 true)).1 (cas M (.status (sl h)) w (St.moveN w 7 true)).2) i := by rw [cas_miss _ _ e]; exact .refl _ _
   exact same e2
 case sFree h =>
  simp only [mstep]
  by_cases e2 : sl h = i
  ·subst e2
   refine ⟨fun e => .inl ho.2.2, .inr ⟨h, rfl, rfl⟩⟩
  ·exact same (.far (by intro e3; cases e3; exact e2 rfl))
 case sAged h j num sn => cases sn <;> exact same sld
 all_goals
  first
  | exact same sld
  | (refine same (.far ?_); intro e; cases e; done)
end
def tickT (st : TSt) (j : Nat) : Prop := ∃ h, sl h = j ∧ (st = .work (.sTick h true) ∨ ∃ r, st = .work (.sNote h true r))
def pinR (M : Mm) (t : Nat) : TSt → Prop
 | .pinLay e _ => e ≤ M .epoch
 | .work _ => M (.pin t) ≠ 0 ∧ M (.pin t) - 1 ≤ M .epoch
 | .leave _ _ => M (.pin t) ≠ 0 ∧ M (.pin t) - 1 ≤ M .epoch
 | _ => True
structure PinI (c : Cfg) (s : Wd) : Prop where
 ep : s.M .epoch ≤ s.n
 ret : ∀ i : Nat, s.M (.retired i) ≤ s.M .epoch
 pin : ∀ t : Nat, (t : Int) < c.T → pinR s.M t (s.th t)
 note : ∀ (u h : Nat) (cl : Bool) (r : Nat), (u : Int) < c.T → s.th u = .work (.sNote h cl r) → s.M (.retired (sl h)) ≤ r ∧ r ≤ s.M .epoch
 h7 : ∀ j t : Nat, (t : Int) < c.T → holdT (s.th t) j → sS s.M j = 7 → (∀ u : Nat, (u : Int) < c.T → ¬ tickT (s.th u) j) → s.M (.pin t) - 1 ≤ s.M (.retired j)
 hN : ∀ u h r : Nat, (u : Int) < c.T → s.th u = .work (.sNote h true r) → ∀ t : Nat, (t : Int) < c.T → holdT (s.th t) (sl h) → s.M (.pin t) - 1 ≤ r
 hG : ∀ u h k r : Nat, (u : Int) < c.T → s.th u = .work (.sGrace h true k r) → ∀ t : Nat, (t : Int) < c.T → t ≠ u → holdT (s.th t) (sl h) → k ≤ t ∧ s.M (.pin t) - 1 ≤ r
 hF : ∀ u h : Nat, (u : Int) < c.T → (s.th u = .work (.sNought h) ∨ s.th u = .work (.sFree h)) → ∀ t : Nat, (t : Int) < c.T → t ≠ u → ¬ holdT (s.th t) (sl h)
def isS : Mach → Bool
 | .sEnter .. => true | .sNumber .. => true | .sAged .. => true | .sDie .. => true | .sDead .. => true | .sTick .. => true | .sNote .. => true | .sRetired .. => true | .sGrace .. => true
 | .sKeys .. => true | .sUnmark .. => true | .sPast .. => true | .sOthers .. => true | .sPart .. => true | .sClose .. => true | .sClosed .. => true | .sNought .. => true | .sFree .. => true | .sLater .. => true
 | _ => false
section
variable {c : Cfg} {M : Mm} {id : Nat}
theorem isS_step (m : Mach) (h : isS m = false) : isS (mstep c id M m).2 = false := by
  have rn : ∀ {x k n : Nat} (r : List Nat), isS (rNext x k n r) = false := by intro x k n r; cases r <;> rfl
  have wn : ∀ {x k n : Nat} (r : List Nat), isS (wNext x k n r) = false := by intro x k n r; cases r <;> rfl
  have wg : ∀ {x k n w : Nat} (r : List Nat), isS (wGoes x k n w r) = false := by
    intro x k n w r
    cases r with
    | nil =>
      simp only [wGoes]
      split
      · exact wn _
      · rfl
    | cons j r => rfl
  cases m
  all_goals
    first
    | (cases h; done)
    | (simp only [mstep, oGoes, rFound, wFound]
       repeat' split
       all_goals first | rfl | exact rn _ | exact wn _ | exact wg _)
theorem isS_of {m : Mach} (h : isS (mstep c id M m).2 = true) : isS m = true := by
 cases e : isS m
 ·rw [isS_step m e] at h; cases h
 ·rfl
theorem to_note {m : Mach} {h : Nat} {cl : Bool} {r : Nat} (e : (mstep c id M m).2 = .sNote h cl r) : m = .sTick h cl ∧ r = M .epoch := by
  have hs : isS m = true := isS_of (by rw [e]; rfl)
  cases m
  case sTick => cases e; exact ⟨rfl, rfl⟩
  case sAged h j num sn =>
    cases sn <;> simp only [mstep, sAges] at e <;> repeat' (split at e)
    all_goals cases e
  all_goals
    first
    | (cases hs; done)
    | (simp only [mstep, sAges, sGraces, sGoes, sKey, sOther] at e
       repeat' (split at e)
       all_goals cases e)
theorem to_grace {m : Mach} {h : Nat} {cl : Bool} {k r : Nat} (e : (mstep c id M m).2 = .sGrace h cl k r) :
    (m = .sNote h cl r ∧ k = n0 id) ∨ (m = .sRetired h cl ∧ k = n0 id ∧ r = M (.retired (sl h))) ∨ ∃ j, m = .sGrace h cl j r ∧ k = nxN j id ∧ ¬ (M (.pin j) ≠ 0 ∧ M (.pin j) - 1 ≤ r) := by
  have hs : isS m = true := isS_of (by rw [e]; rfl)
  cases m
  case sNote x cl' r' =>
    simp only [mstep, sGraces, sGoes] at e
    repeat' (split at e)
    all_goals first | (cases e; exact .inl ⟨rfl, rfl⟩) | (cases e; done)
  case sRetired x cl' =>
    simp only [mstep, sGraces, sGoes] at e
    repeat' (split at e)
    all_goals first | (cases e; exact .inr (.inl ⟨rfl, rfl, rfl⟩)) | (cases e; done)
  case sGrace x cl' j r' =>
    simp only [mstep, sGraces, sGoes] at e
    split at e
    · cases e
    · rename_i hn
      repeat' (split at e)
      all_goals first | (cases e; exact .inr (.inr ⟨j, rfl, rfl, hn⟩)) | (cases e; done)
  case sAged h j num sn =>
    cases sn <;> simp only [mstep, sAges] at e <;> repeat' (split at e)
    all_goals cases e
  all_goals
    first
    | (cases hs; done)
    | (simp only [mstep, sAges, sGraces, sGoes, sKey, sOther] at e
       repeat' (split at e)
       all_goals cases e)
theorem to_nought {m : Mach} {h : Nat} (e : (mstep c id M m).2 = .sNought h) :
    (∃ r, m = .sNote h true r ∧ ¬ (n0 id : Int) < c.T) ∨ (m = .sRetired h true ∧ ¬ (n0 id : Int) < c.T) ∨ ∃ j r, m = .sGrace h true j r ∧ ¬ (nxN j id : Int) < c.T ∧ ¬ (M (.pin j) ≠ 0 ∧ M (.pin j) - 1 ≤ r) := by
  have hs : isS m = true := isS_of (by rw [e]; rfl)
  cases m
  case sNote x cl' r' =>
    simp only [mstep, sGraces, sGoes] at e
    split at e
    · cases e
    · rename_i hn
      cases cl'
      · cases e
      · cases e; exact .inl ⟨r', rfl, hn⟩
  case sRetired x cl' =>
    simp only [mstep, sGraces, sGoes] at e
    split at e
    · cases e
    · rename_i hn
      cases cl'
      · cases e
      · cases e; exact .inr (.inl ⟨rfl, hn⟩)
  case sGrace x cl' j r' =>
    simp only [mstep, sGraces, sGoes] at e
    split at e
    · cases e
    · rename_i hn
      split at e
      · cases e
      · rename_i hn2
        cases cl'
        · cases e
        · cases e; exact .inr (.inr ⟨j, r', rfl, hn2, hn⟩)
  case sAged h j num sn =>
    cases sn <;> simp only [mstep, sAges] at e <;> repeat' (split at e)
    all_goals cases e
  all_goals
    first
    | (cases hs; done)
    | (simp only [mstep, sAges, sKey, sOther] at e
       repeat' (split at e)
       all_goals cases e)
theorem to_free {m : Mach} {h : Nat} (e : (mstep c id M m).2 = .sFree h) : m = .sNought h := by
  have hs : isS m = true := isS_of (by rw [e]; rfl)
  cases m
  case sNought => cases e; rfl
  case sAged h j num sn =>
    cases sn <;> simp only [mstep, sAges] at e <;> repeat' (split at e)
    all_goals cases e
  all_goals
    first
    | (cases hs; done)
    | (simp only [mstep, sAges, sGraces, sGoes, sKey, sOther] at e
       repeat' (split at e)
       all_goals cases e)
end
theorem goesOn_work_inv {m m' : Mach} (h : goesOn m = .work m') : m = m' := by
 cases m <;> first | (cases h; rfl) | cases h
theorem tstep_work {c : Cfg} {M : Mm} {id : Nat} {st : TSt} {m' : Mach} (h : (tstep c id M st).2 = .work m') (hw : ∀ e m, st = .pinLay e m → slotOf m = none) (hs : slotOf m' ≠ none) : ∃ m, st = .work m ∧ (mstep c id M m).2 = m' := by
 cases st with
 | idle a => cases h
 | pinLoad m => cases h
 | pinLay e m => have h1 := hw e m rfl; rw [goesOn_work_inv h] at h1; exact (hs h1).elim
 | work m => exact ⟨m, rfl, goesOn_work_inv h⟩
 | leave kd a => cases h
theorem hold_work {st : TSt} {j : Nat} (h : holdT st j) : ∃ m, st = .work m ∧ holds m j := by
 cases st with
 | work m => exact ⟨m, rfl, h⟩
 | _ => exact h.elim
theorem pin_step {c : Cfg} {s : Wd} (hr : c.right) (hst : Str c s) (ho : OwnI c s) (hk : MkI c s) (h : PinI c s) (id : Nat) (hid : (id : Int) < c.T) (hn : s.n < 1000000000) : PinI c (wstep c s id).2 := by
 unfold wstep
 by_cases hi' : isIdle (s.th id) = true
 ·rw [if_pos hi']; exact h
 rw [if_neg hi']
 have hm := hst.tok id hid
 have hw := hst.wd id hid
 have h0 := ho.own id hid
 have hpl : ∀ e m, s.th id = .pinLay e m → slotOf m = none := by
  intro e m h1; rw [h1] at h0; exact h0
 generalize hM' : upd s.M (tstep c id s.M (s.th id)).1.1 (tstep c id s.M (s.th id)).1.2 = M'
 generalize hst' : (tstep c id s.M (s.th id)).2 = st'
 -- epochs
 have hep : s.M .epoch ≤ M' .epoch ∧ M' .epoch ≤ s.M .epoch + 1 := by
  have far : ∀ {sp : Spot} {v : Nat}, sp ≠ .epoch → upd s.M sp v .epoch = s.M .epoch := fun hne => upd_ne _ _ (Ne.symm hne)
  rw [← hM']
  cases hth : s.th id with
  | idle a => simp only [tstep, upd_ld]; omega
  | pinLoad m => simp only [tstep, upd_ld]; omega
  | pinLay e m => simp only [tstep]; rw [far (by intro e; cases e)]; omega
  | leave kd a => simp only [tstep]; rw [far (by intro e; cases e)]; omega
  | work m =>
   have g : s.M .epoch ≤ upd s.M (mstep c id s.M m).1.1 (mstep c id s.M m).1.2 .epoch ∧ upd s.M (mstep c id s.M m).1.1 (mstep c id s.M m).1.2 .epoch ≤ s.M .epoch + 1 := by
    rcases step_epoch (c := c) (M := s.M) (id := id) m with e | ⟨x, cl, _, e⟩
    ·rw [e]; omega
    ·rw [e]
     have := h.ep
     omega
   exact g
 -- pins
 have hpin : ∀ t : Nat, t ≠ id → M' (.pin t) = s.M (.pin t) := by
  intro t ht
  rw [← hM']
  cases hth : s.th id with
  | idle a => simp only [tstep, upd_ld]
  | pinLoad m => simp only [tstep, upd_ld]
  | pinLay e m => exact upd_ne _ _ (by intro e; cases e; exact ht rfl)
  | leave kd a => exact upd_ne _ _ (by intro e; cases e; exact ht rfl)
  | work m => exact step_pin m t
 have hpinw : ∀ m, s.th id = .work m → M' (.pin id) = s.M (.pin id) := by
  intro m hth
  rw [← hM', hth]
  exact step_pin m id
 -- retired
 have hret : ∀ i, M' (.retired i) = s.M (.retired i) ∨ ∃ x cl r, s.th id = .work (.sNote x cl r) ∧ sl x = i ∧ M' (.retired i) = r := by
  intro i
  rw [← hM']
  cases hth : s.th id with
  | idle a => left; simp only [tstep, upd_ld]
  | pinLoad m => left; simp only [tstep, upd_ld]
  | pinLay e m => left; exact upd_ne _ _ (by intro e; cases e)
  | leave kd a => left; exact upd_ne _ _ (by intro e; cases e)
  | work m =>
   rcases step_ret (c := c) (M := s.M) (id := id) m i with e | ⟨x, cl, r, rfl, h2, h3⟩
   ·exact .inl e
   ·exact .inr ⟨x, cl, r, rfl, h2, h3⟩
 have hretle : ∀ i, s.M (.retired i) ≤ M' (.retired i) := by
  intro i
  rcases hret i with e | ⟨x, cl, r, h1, rfl, h3⟩
  ·omega
  ·have := (h.note id x cl r hid h1).1; omega
 -- clear
 have h7' : ∀ j, sS M' j = 7 → sS s.M j = 7 ∨ ∃ x, sl x = j ∧ st' = .work (.sTick x true) := by
  intro j hj
  rw [← hM'] at hj
  have far : ∀ {sp : Spot} {v : Nat}, sp ≠ .status j → sS (upd s.M sp v) j = 7 → sS s.M j = 7 := by
   intro sp v hne h1
   have e : upd s.M sp v (.status j) = s.M (.status j) := upd_ne _ _ (Ne.symm hne)
   simp only [sS, e] at h1; exact h1
  cases hth : s.th id with
  | idle a => rw [hth] at hj; simp only [tstep, upd_ld] at hj; exact .inl hj
  | pinLoad m => rw [hth] at hj; simp only [tstep, upd_ld] at hj; exact .inl hj
  | pinLay e m => rw [hth] at hj; exact .inl (far (by intro e; cases e) hj)
  | leave kd a => rw [hth] at hj; exact .inl (far (by intro e; cases e) hj)
  | work m =>
   rw [hth] at hj hm hw h0
   rcases (step_clear (id := id) hr m hm.1 hw h0 j).1 hj with h1 | ⟨x, w, _, h2, h3⟩
   ·exact .inl h1
   ·refine .inr ⟨x, h2, ?_⟩
    rw [← hst', hth]
    simp only [tstep, h3, goesOn]
 -- new holds
 have hnew : ∀ j, holdT st' j → holdT (s.th id) j ∨ mid (sS s.M j) := by
  intro j hj
  rw [← hst'] at hj
  cases hth : s.th id with
  | idle a => rw [hth] at hj; exact hj.elim
  | pinLoad m => rw [hth] at hj; exact hj.elim
  | pinLay e m =>
   rw [hth] at hj
   have h1 := hpl e m hth
   have h2 : holds m j := holds_goesOn.1 hj
   cases m <;> first | exact h2.elim | cases h1
  | leave kd a => rw [hth] at hj; exact hj.elim
  | work m =>
   rw [hth] at hj hm
   have h2 : holds (mstep c id s.M m).2 j := holds_goesOn.1 hj
   rcases step_holds m hm.1 h2 with h3 | ⟨κ, kd, h3, h4, h5⟩
   ·exact .inl h3
   ·exact .inr (hk.at_ κ kd j h3 h4 h5)
 have hold_pin : ∀ j, holdT (s.th id) j → M' (.pin id) = s.M (.pin id) := by
  intro j hj
  obtain ⟨m, h1, _⟩ := hold_work hj
  exact hpinw m h1
 -- a holder that held, where the slot is clear
 have held : ∀ j t : Nat, (t : Int) < c.T → holdT (setF s.th id st' t) j → sS s.M j = 7 → holdT (s.th t) j ∧ M' (.pin t) = s.M (.pin t) := by
  intro j t ht hj h7
  by_cases e : t = id
  ·subst e
   rw [setF_same] at hj
   rcases hnew j hj with h1 | h1
   ·exact ⟨h1, hold_pin j h1⟩
   ·unfold mid at h1; omega
  ·rw [setF_other _ _ e] at hj
   exact ⟨hj, hpin t e⟩
 have pinOf : ∀ j t : Nat, (t : Int) < c.T → holdT (s.th t) j → s.M (.pin t) ≠ 0 ∧ s.M (.pin t) - 1 ≤ s.M .epoch := by
  intro j t ht hj
  obtain ⟨m, h1, _⟩ := hold_work hj
  have := h.pin t ht
  rw [h1] at this
  exact this
 have own7 : ∀ u h : Nat, (u : Int) < c.T → (s.th u = .work (.sTick h true) ∨ (∃ r, s.th u = .work (.sNote h true r)) ∨ s.th u = .work (.sRetired h true) ∨ (∃ k r, s.th u = .work (.sGrace h true k r)) ∨ s.th u = .work (.sNought h) ∨ s.th u = .work (.sFree h)) → sS s.M (sl h) = 7 := by
  intro u x hu hx
  have h1 := ho.own u hu
  rcases hx with e | ⟨r, e⟩ | e | ⟨k, r, e⟩ | e | e <;> rw [e] at h1 <;> exact h1.2.2
 have slot_ne : ∀ (u : Nat) (m m2 : Mach) (i : Nat), (u : Int) < c.T → u ≠ id → s.th u = .work m → slotOf m = some i → s.th id = .work m2 → slotOf m2 = some i → False := by
  intro u m m2 i hu hne e1 e2 e3 e4
  exact ho.uniq u id hu hid hne i (by rw [e1]; exact e2) (by rw [e3]; exact e4)
 refine ⟨?_, fun i => ?_, fun t ht => ?_, fun u x cl r hu he => ?_, fun j t ht hj h7 hno => ?_, fun u x r hu he t ht hj => ?_, fun u x k r hu he t ht hne hj => ?_, fun u x hu he t ht hne hj => ?_⟩
 ·have := h.ep; show M' .epoch ≤ s.n + 1; omega
 ·rcases hret i with e | ⟨x, cl, r, h1, rfl, h3⟩
  ·show M' (.retired i) ≤ M' .epoch
   rw [e]; have := h.ret i; omega
  ·show M' (.retired (sl x)) ≤ M' .epoch
   rw [h3]; have := (h.note id x cl r hid h1).2; omega
 ·show pinR M' t (setF s.th id st' t)
  by_cases e : t = id
  ·subst e
   rw [setF_same, ← hst']
   have h1 := h.pin t ht
   cases hth : s.th t with
   | idle a => trivial
   | pinLoad m => show s.M .epoch ≤ M' .epoch; omega
   | pinLay e m =>
    rw [hth] at h1 hm
    have h2 : M' (.pin t) = (e + 1) % 18446744073709551616 := by rw [← hM', hth]; exact upd_at _ _ _
    have h3 : e ≤ s.M .epoch := h1
    have h4 := h.ep
    have h5 : M' (.pin t) ≠ 0 ∧ M' (.pin t) - 1 ≤ M' .epoch := by rw [h2]; omega
    show pinR M' t (goesOn m)
    cases m <;> exact h5
   | work m =>
    rw [hth] at h1
    have h2 := hpinw m hth
    have h5 : M' (.pin t) ≠ 0 ∧ M' (.pin t) - 1 ≤ M' .epoch := by rw [h2]; exact ⟨h1.1, by have := h1.2; omega⟩
    show pinR M' t (goesOn (mstep c t s.M m).2)
    cases (mstep c t s.M m).2 <;> exact h5
   | leave kd a => trivial
  ·rw [setF_other _ _ e]
   have h1 := h.pin t ht
   cases hth : s.th t with
   | idle a => trivial
   | pinLoad m => trivial
   | pinLay e' m => rw [hth] at h1; have h3 : e' ≤ s.M .epoch := h1; show e' ≤ M' .epoch; omega
   | work m => rw [hth] at h1; show M' (.pin t) ≠ 0 ∧ M' (.pin t) - 1 ≤ M' .epoch; rw [hpin t e]; exact ⟨h1.1, by have := h1.2; omega⟩
   | leave kd a => rw [hth] at h1; show M' (.pin t) ≠ 0 ∧ M' (.pin t) - 1 ≤ M' .epoch; rw [hpin t e]; exact ⟨h1.1, by have := h1.2; omega⟩
 ·show M' (.retired (sl x)) ≤ r ∧ r ≤ M' .epoch
  simp only [setF] at he
  by_cases e : u = id
  ·rw [if_pos e] at he
   subst e
   obtain ⟨m, h1, h2⟩ := tstep_work (hst'.trans he) hpl (by simp [slotOf])
   obtain ⟨rfl, rfl⟩ := to_note h2
   rcases hret (sl x) with e2 | ⟨y, cl', r', h3, _, _⟩
   ·rw [e2]; exact ⟨h.ret _, hep.1⟩
   ·rw [h1] at h3; cases h3
  ·rw [if_neg e] at he
   have h1 := h.note u x cl r hu he
   rcases hret (sl x) with e2 | ⟨y, cl', r', h3, h4, _⟩
   ·rw [e2]; exact ⟨h1.1, by omega⟩
   ·exact (slot_ne u _ _ (sl x) hu e he rfl h3 (by simp [slotOf, h4])).elim
 ·show M' (.pin t) - 1 ≤ M' (.retired j)
  rcases h7' j h7 with h1 | ⟨x, h1, h2⟩
  ·obtain ⟨h2, h3⟩ := held j t ht hj h1
   rw [h3]
   by_cases hcase : ∃ x r, sl x = j ∧ s.th id = .work (.sNote x true r)
   ·obtain ⟨x, r, h4, h5⟩ := hcase
    subst h4
    have h6 := h.hN id x r hid h5 t ht h2
    have h8 : M' (.retired (sl x)) = r := by rw [← hM', h5]; exact upd_at _ _ _
    omega
   ·have h4 := h.h7 j t ht h2 h1 (fun u hu hut => by
     obtain ⟨x, h5, h6⟩ := hut
     by_cases e : u = id
     ·subst e
      rcases h6 with h6 | ⟨r, h6⟩
      ·have h8 := hno u hu
       simp only [setF_same] at h8
       refine h8 ⟨x, h5, .inr ⟨s.M .epoch, ?_⟩⟩
       rw [← hst', h6]
       rfl
      ·exact hcase ⟨x, r, h5, h6⟩
     ·have h8 := hno u hu
      simp only [setF_other _ _ e] at h8
      exact h8 ⟨x, h5, h6⟩)
    have := hretle j
    omega
  ·exfalso
   have h3 := hno id hid
   simp only [setF_same] at h3
   exact h3 ⟨x, h1, .inl h2⟩
 ·show M' (.pin t) - 1 ≤ r
  simp only [setF] at he
  by_cases e : u = id
  ·rw [if_pos e] at he
   subst e
   obtain ⟨m, h1, h2⟩ := tstep_work (hst'.trans he) hpl (by simp [slotOf])
   obtain ⟨rfl, rfl⟩ := to_note h2
   have h7 := own7 u x hu (.inl h1)
   obtain ⟨h3, h4⟩ := held (sl x) t ht hj h7
   rw [h4]
   exact (pinOf _ t ht h3).2
  ·rw [if_neg e] at he
   have h7 := own7 u x hu (.inr (.inl ⟨r, he⟩))
   obtain ⟨h3, h4⟩ := held (sl x) t ht hj h7
   rw [h4]
   exact h.hN u x r hu he t ht h3
 ·show k ≤ t ∧ M' (.pin t) - 1 ≤ r
  simp only [setF] at he
  by_cases e : u = id
  ·rw [if_pos e] at he
   subst e
   obtain ⟨m, h1, h2⟩ := tstep_work (hst'.trans he) hpl (by simp [slotOf])
   rcases to_grace h2 with ⟨rfl, rfl⟩ | ⟨rfl, rfl, rfl⟩ | ⟨j, rfl, rfl, h5⟩
   ·have h7 := own7 u x hu (.inr (.inl ⟨r, h1⟩))
    obtain ⟨h3, h4⟩ := held (sl x) t ht hj h7
    rw [h4]
    refine ⟨?_, h.hN u x r hu h1 t ht h3⟩
    unfold n0; split <;> omega
   ·have h7 := own7 u x hu (.inr (.inr (.inl h1)))
    obtain ⟨h3, h4⟩ := held (sl x) t ht hj h7
    rw [h4]
    refine ⟨by unfold n0; split <;> omega, h.h7 (sl x) t ht h3 h7 fun v hv hvt => ?_⟩
    obtain ⟨y, h5, h6⟩ := hvt
    by_cases e2 : v = u
    ·subst e2
     rcases h6 with h6 | ⟨r, h6⟩ <;> rw [h1] at h6 <;> cases h6
    ·rcases h6 with h6 | ⟨r, h6⟩
     ·exact slot_ne v _ _ (sl x) hv e2 h6 (by simp [slotOf, h5]) h1 rfl
     ·exact slot_ne v _ _ (sl x) hv e2 h6 (by simp [slotOf, h5]) h1 rfl
   ·have h7 := own7 u x hu (.inr (.inr (.inr (.inl ⟨j, r, h1⟩))))
    obtain ⟨h3, h4⟩ := held (sl x) t ht hj h7
    rw [h4]
    obtain ⟨h8, h9⟩ := h.hG u x j r hu h1 t ht hne h3
    refine ⟨?_, h9⟩
    have h10 : t ≠ j := by
     rintro rfl
     exact h5 ⟨(pinOf _ t ht h3).1, h9⟩
    unfold nxN
    split <;> omega
  ·rw [if_neg e] at he
   have h7 := own7 u x hu (.inr (.inr (.inr (.inl ⟨k, r, he⟩))))
   obtain ⟨h3, h4⟩ := held (sl x) t ht hj h7
   rw [h4]
   exact h.hG u x k r hu he t ht hne h3
 ·simp only [setF] at he
  by_cases e : u = id
  ·rw [if_pos e] at he
   subst e
   rcases he with he | he
   ·obtain ⟨m, h1, h2⟩ := tstep_work (hst'.trans he) hpl (by simp [slotOf])
    rcases to_nought h2 with ⟨r, rfl, h5⟩ | ⟨rfl, h5⟩ | ⟨j, r, rfl, h5, h6⟩
    ·unfold n0 at h5; split at h5 <;> omega
    ·unfold n0 at h5; split at h5 <;> omega
    ·have h7 := own7 u x hu (.inr (.inr (.inr (.inl ⟨j, r, h1⟩))))
     obtain ⟨h3, h4⟩ := held (sl x) t ht hj h7
     obtain ⟨h8, h9⟩ := h.hG u x j r hu h1 t ht hne h3
     have h10 : t ≠ j := by
      rintro rfl
      exact h6 ⟨(pinOf _ t ht h3).1, h9⟩
     unfold nxN at h5
     split at h5 <;> omega
   ·obtain ⟨m, h1, h2⟩ := tstep_work (hst'.trans he) hpl (by simp [slotOf])
    have h3 := to_free h2
    subst h3
    have h7 := own7 u x hu (.inr (.inr (.inr (.inr (.inl h1)))))
    obtain ⟨h3, h4⟩ := held (sl x) t ht hj h7
    exact h.hF u x hu (.inl h1) t ht hne h3
  ·rw [if_neg e] at he
   have h7 := own7 u x hu (.inr (.inr (.inr (.inr he))))
   obtain ⟨h3, h4⟩ := held (sl x) t ht hj h7
   exact h.hF u x hu he t ht hne h3
theorem begins_done {c : Cfg} {kind : Int} {h : Nat} {k : Int} {kd : Kd} {a : Ans} (e : begins c kind h k = .done kd a) : a.e = 2 ∨ a.e = 5 := by
 unfold begins at e
 repeat' (split at e)
 all_goals first | (cases e; done) | (cases e; simp)
theorem pin_start {c : Cfg} {s : Wd} (h : PinI c s) (id : Nat) (kd : Int) (x : Nat) (k : Int) : PinI c (wstart c s id kd x k).2 := by
 unfold wstart
 cases hs : s.th id with
 | idle a =>
  by_cases hk : 1 ≤ kd ∧ kd ≤ 6
  ·have e : tstart c kd x k (.idle a) = (true, .pinLoad (begins c kd x k)) := tstart_yes _ _ _ _ _ hk.1 hk.2
   rw [e]
   have hw : ∀ (u : Nat) (m : Mach), setF s.th id (TSt.pinLoad (begins c kd x k)) u = .work m → s.th u = .work m := by
    intro u m h1
    simp only [setF] at h1
    split at h1
    ·cases h1
    ·exact h1
   have hh : ∀ (t j : Nat), holdT (setF s.th id (TSt.pinLoad (begins c kd x k)) t) j → holdT (s.th t) j := by
    intro t j h1
    simp only [setF] at h1
    split at h1
    ·exact h1.elim
    ·exact h1
   have ht : ∀ (u j : Nat), tickT (s.th u) j → tickT (setF s.th id (TSt.pinLoad (begins c kd x k)) u) j := by
    intro u j h1
    simp only [setF]
    split
    ·rename_i e1
     subst e1
     rw [hs] at h1
     obtain ⟨y, _, h2 | ⟨r, h2⟩⟩ := h1 <;> cases h2
    ·exact h1
   refine ⟨h.ep, h.ret, fun t htT => ?_, fun u y cl r hu he => h.note u y cl r hu (hw _ _ he), fun j t htT hj h7 hno => h.h7 j t htT (hh _ _ hj) h7 fun u hu hut => hno u hu (ht _ _ hut), fun u y r hu he t htT hj => h.hN u y r hu (hw _ _ he) t htT (hh _ _ hj), fun u y k' r hu he t htT hne hj => h.hG u y k' r hu (hw _ _ he) t htT hne (hh _ _ hj), fun u y hu he t htT hne hj => h.hF u y hu (he.imp (hw _ _) (hw _ _)) t htT hne (hh _ _ hj)⟩
   simp only [setF]
   split
   ·trivial
   ·exact h.pin t htT
  ·have e : tstart c kd x k (.idle a) = (false, .idle a) := if_neg hk
   rw [e]
   exact h
 | _ => exact h
theorem wstart_n {c : Cfg} {s : Wd} {id : Nat} {kd : Int} {x : Nat} {k : Int} : (wstart c s id kd x k).2.n = s.n := by
 unfold wstart
 split <;> rfl
theorem wstep_n {c : Cfg} {s : Wd} {id : Nat} : s.n ≤ (wstep c s id).2.n := by
 unfold wstep
 split
 ·exact Nat.le_refl _
 ·exact Nat.le_succ _
theorem reach_pin {c : Cfg} {s : Wd} (hr : c.right) (h : Reach c s) (hn : s.n < 1000000000) : PinI c s := by
 induction h with
 | init =>
  refine ⟨Nat.le_refl _, fun i => Nat.le_refl _, fun t _ => trivial, ?_, ?_, ?_, ?_, ?_⟩
  ·intro u x cl r _ h; cases h
  ·intro j t _ h; exact h.elim
  ·intro u x r _ h; cases h
  ·intro u x k r _ h; cases h
  ·intro u x _ h; rcases h with h | h <;> cases h
 | start id kd x k hid hh _ ih => exact pin_start (ih (by rw [wstart_n] at hn; exact hn)) id kd x k
 | @step s id hid hs ih =>
  have h1 := wstep_n (c := c) (s := s) (id := id)
  exact pin_step hr (reach_str hr hs) (reach_own hr hs) (reach_mk hr hs) (ih (by omega)) id hid (by omega)
theorem hold_gen {c : Cfg} {s : Wd} (hr : c.right) (hst : Str c s) (ho : OwnI c s) (hp : PinI c s) {id t : Nat} (hid : (id : Int) < c.T) (ht : (t : Int) < c.T) {j : Nat} (hj : holdT (s.th t) j) :
  sG (upd s.M (tstep c id s.M (s.th id)).1.1 (tstep c id s.M (s.th id)).1.2) j = sG s.M j := by
 have far : ∀ {sp : Spot} {v : Nat}, sp ≠ .status j → sG (upd s.M sp v) j = sG s.M j := by
  intro sp v hne
  have e : upd s.M sp v (.status j) = s.M (.status j) := upd_ne _ _ (Ne.symm hne)
  simp only [sG, e]
 have hm := hst.tok id hid
 have hw := hst.wd id hid
 have h0 := ho.own id hid
 cases hth : s.th id with
 | idle a => simp only [tstep, upd_ld]
 | pinLoad m => simp only [tstep, upd_ld]
 | pinLay e m => exact far (by intro e; cases e)
 | leave kd a => exact far (by intro e; cases e)
 | work m =>
  rw [hth] at hm hw h0
  rcases (step_clear (id := id) hr m hm.1 hw h0 j).2 with h1 | ⟨x, rfl, h2⟩
  ·exact h1
  ·exfalso
   by_cases e : t = id
   ·subst e
    rw [hth] at hj
    exact hj.elim
   ·exact hp.hF id x hid (.inr hth) t ht e (by rw [h2]; exact hj)
def helpW : Mach → Option Nat
 | .oHelp _ _ w _ => some w
 | .cHelp _ w _ => some w
 | .cNote _ _ hw _ => some hw
 | _ => none
section
variable {c : Cfg} {M : Mm} {id : Nat}
theorem hstep_num {w : Nat} {p : HP} (i : Nat) : upd M (hstep M w p).1.1 (hstep M w p).1.2 (.number i) = M (.number i) ∨ (M (.number i) = 0 ∧ upd M (hstep M w p).1.1 (hstep M w p).1.2 (.number i) = w / 16) := by
 cases p with
 | number =>
  show upd M (cas M (.number (w % 16 - 1)) 0 (w / 16)).1 (cas M (.number (w % 16 - 1)) 0 (w / 16)).2 (.number i) = _ ∨ _ ∧ upd M (cas M (.number (w % 16 - 1)) 0 (w / 16)).1 (cas M (.number (w % 16 - 1)) 0 (w / 16)).2 (.number i) = _
  by_cases e : M (.number (w % 16 - 1)) = 0
  ·rw [cas_hit _ _ e]
   by_cases e2 : w % 16 - 1 = i
   ·subst e2; exact .inr ⟨e, upd_at _ _ _⟩
   ·exact .inl (upd_ne _ _ (by intro e3; cases e3; exact e2 rfl))
  ·rw [cas_miss _ _ e]; exact .inl rfl
 | look => left; rw [show (hstep M w .look).1 = ld M _ from rfl, upd_ld]
 | lay s => exact .inl (upd_ne _ _ (by intro e; cases e))
 | settle => exact .inl (upd_ne _ _ (by intro e; cases e))
theorem jstep_num {j b n : Nat} {side : Int} {p : JP} (i : Nat) : upd M (jstep M j side b n p).1.1 (jstep M j side b n p).1.2 (.number i) = M (.number i) := by
 cases p with
 | look => rw [show (jstep M j side b n .look).1 = ld M _ from rfl, upd_ld]
 | number s => rw [show (jstep M j side b n (.number s)).1 = ld M _ from rfl, upd_ld]
 | lay s => exact upd_ne _ _ (by intro e; cases e)
theorem step_num (m : Mach) (i : Nat) : upd M (mstep c id M m).1.1 (mstep c id M m).1.2 (.number i) = M (.number i) ∨ (M (.number i) = 0 ∧ ∃ w, helpW m = some w ∧ upd M (mstep c id M m).1.1 (mstep c id M m).1.2 (.number i) = w / 16) ∨
  ∃ h, m = .sNought h ∧ sl h = i ∧ upd M (mstep c id M m).1.1 (mstep c id M m).1.2 (.number i) = 0 := by
 cases m
 case oHelp j s w p =>
  rcases hstep_num (M := M) (w := w) (p := p) i with e | ⟨e1, e2⟩
  ·exact .inl e
  ·exact .inr (.inl ⟨e1, w, rfl, e2⟩)
 case cHelp h w p =>
  rcases hstep_num (M := M) (w := w) (p := p) i with e | ⟨e1, e2⟩
  ·exact .inl e
  ·exact .inr (.inl ⟨e1, w, rfl, e2⟩)
 case cNote h w hw p =>
  rcases hstep_num (M := M) (w := hw) (p := p) i with e | ⟨e1, e2⟩
  ·exact .inl e
  ·exact .inr (.inl ⟨e1, hw, rfl, e2⟩)
 case rJoin => exact .inl (jstep_num i)
 case wJoin => exact .inl (jstep_num i)
 case sNought h =>
  by_cases e : sl h = i
  ·subst e; exact .inr (.inr ⟨h, rfl, rfl, upd_at _ _ _⟩)
  ·exact .inl (upd_ne _ _ (by intro e2; cases e2; exact e rfl))
 case sAged h j num sn => cases sn <;> (left; simp only [mstep, upd_ld])
 all_goals
  left
  first
  | (simp only [mstep, upd_ld]; done)
  | (refine upd_ne _ _ ?_; intro e; cases e; done)
  | (refine upd_ne _ _ ?_; rename_i p; cases p <;> (intro e; cases e))
  | (refine upd_ne _ _ ?_; rename_i p _; cases p <;> (intro e; cases e))
theorem step_up (hr : c.right) (m : Mach) (hm : mOK c id m) (hw : wdOK m) (ho : ownR M m) (i : Nat) :
  (∃ h, m = .sFree h ∧ sl h = i) ∨ (sG (upd M (mstep c id M m).1.1 (mstep c id M m).1.2) i = sG M i ∧
   (2 ≤ sS M i → 2 ≤ sS (upd M (mstep c id M m).1.1 (mstep c id M m).1.2) i) ∧
   (4 ≤ sS M i → 4 ≤ sS (upd M (mstep c id M m).1.1 (mstep c id M m).1.2) i ∧ (sS (upd M (mstep c id M m).1.1 (mstep c id M m).1.2) i = 4 → sS M i = 4))) := by
 have t12 : ∀ {h : Nat}, tk c h → sl h < 12 := fun k => by have := tk_of k; omega
 have same : ∀ {M' : Mm} {m : Mach}, Same3 M M' i → (∃ h, m = .sFree h ∧ sl h = i) ∨ (sG M' i = sG M i ∧ (2 ≤ sS M i → 2 ≤ sS M' i) ∧ (4 ≤ sS M i → 4 ≤ sS M' i ∧ (sS M' i = 4 → sS M i = 4))) := by
  intro M' m h
  refine .inr ⟨h.1, ?_⟩
  rcases h.2.2 with e | ⟨e1, e2⟩
  ·rw [e]; exact ⟨fun h => h, fun h => ⟨h, fun h => h⟩⟩
  ·omega
 have sld : ∀ {s : Spot}, Same3 M (upd M (ld M s).1 (ld M s).2) i := by intro s; rw [upd_ld]; exact .refl _ _
 have mv : ∀ {m : Mach} {j s x : Nat} {b : Bool}, x < 8 → (M (.status j) = s → (2 ≤ stOf s → 2 ≤ x) ∧ (4 ≤ stOf s → 4 ≤ x ∧ (x = 4 → stOf s = 4))) →
   (∃ h, m = .sFree h ∧ sl h = i) ∨ (sG (upd M (cas M (.status j) s (St.moveN s x b)).1 (cas M (.status j) s (St.moveN s x b)).2) i = sG M i ∧ (2 ≤ sS M i → 2 ≤ sS (upd M (cas M (.status j) s (St.moveN s x b)).1 (cas M (.status j) s (St.moveN s x b)).2) i) ∧ (4 ≤ sS M i → 4 ≤ sS (upd M (cas M (.status j) s (St.moveN s x b)).1 (cas M (.status j) s (St.moveN s x b)).2) i ∧ (sS (upd M (cas M (.status j) s (St.moveN s x b)).1 (cas M (.status j) s (St.moveN s x b)).2) i = 4 → sS M i = 4))) := by
  intro m j s x b hx h
  by_cases e : M (.status j) = s
  ·rw [cas_hit _ _ e]
   by_cases e2 : j = i
   ·subst e2
    simp only [sS, sG, upd_at, e]
    rw [st_move _ _ _ hx, gn_move _ _ _ hx]
    exact .inr ⟨rfl, h e⟩
   ·exact same (.far (by intro e3; cases e3; exact e2 rfl))
  ·rw [cas_miss _ _ e]; exact same (.refl _ _)
 have en : ∀ {m : Mach} {h : Nat} {ok : Nat → Bool} {p : EP}, (∃ h, m = .sFree h ∧ sl h = i) ∨ (sG (upd M (estep M h ok p).1.1 (estep M h ok p).1.2) i = sG M i ∧ (2 ≤ sS M i → 2 ≤ sS (upd M (estep M h ok p).1.1 (estep M h ok p).1.2) i) ∧ (4 ≤ sS M i → 4 ≤ sS (upd M (estep M h ok p).1.1 (estep M h ok p).1.2) i ∧ (sS (upd M (estep M h ok p).1.1 (estep M h ok p).1.2) i = 4 → sS M i = 4))) := by
  intro m h ok p
  cases p with
  | look => rw [show (estep M h ok .look).1 = ld M _ from rfl]; exact same sld
  | swap s => exact mv (stOf_lt s) (fun _ => ⟨fun e => e, fun e => ⟨e, fun e => e⟩⟩)
 have lv : ∀ {m : Mach} {j : Nat} {ab : Bool} {p : EP}, (∃ h, m = .sFree h ∧ sl h = i) ∨ (sG (upd M (lstep M j ab p).1.1 (lstep M j ab p).1.2) i = sG M i ∧ (2 ≤ sS M i → 2 ≤ sS (upd M (lstep M j ab p).1.1 (lstep M j ab p).1.2) i) ∧ (4 ≤ sS M i → 4 ≤ sS (upd M (lstep M j ab p).1.1 (lstep M j ab p).1.2) i ∧ (sS (upd M (lstep M j ab p).1.1 (lstep M j ab p).1.2) i = 4 → sS M i = 4))) := by
  intro m j ab p
  cases p with
  | look => rw [show (lstep M j ab .look).1 = ld M _ from rfl]; exact same sld
  | swap s =>
   cases ab
   ·exact mv (x := stOf s) (stOf_lt s) (fun _ => ⟨fun e => e, fun e => ⟨e, fun e => e⟩⟩)
   ·exact mv (x := 5) (by omega) (fun _ => by omega)
 cases m
 case oTake j s => exact mv (by omega) (fun _ => by have : stOf s = 0 := hw; omega)
 case oStart j s q =>
  simp only [mstep]
  by_cases e2 : j = i
  ·subst e2
   right
   have h1 : sS M j = 1 := ho.1
   have e3 : sG (upd M (.status j) (St.moveN s 2 false)) j = sG M j := by
    rw [ho.2]; simp only [sG, upd_at]; exact gn_move _ _ _ (by omega)
   have e4 : sS (upd M (.status j) (St.moveN s 2 false)) j = 2 := by simp only [sS, upd_at]; exact st_move _ _ _ (by omega)
   rw [e3, e4, h1]
   omega
  ·exact same (.far (by intro e3; cases e3; exact e2 rfl))
 case oHelp j s w p => exact same (hstep_same hw.2)
 case cHelp h w p => exact same (hstep_same hw)
 case cNote h w hw' p => exact same (hstep_same hw)
 case rEnter => exact en
 case wEnter => exact en
 case cEnter => exact en
 case aEnter => exact en
 case sEnter => exact en
 case rLeave => exact lv
 case wLeave => exact lv
 case cLeave => exact lv
 case aLeave => exact lv
 case sLater => exact lv
 case rJoin h k n j r p => exact same (jstep_same (k := 1) (by omega) (t12 hm.1))
 case wJoin h k n j r p => exact same (jstep_same (k := 0) (by omega) (t12 hm.1))
 case rOwn h k n j r p =>
  have hj : j < 12 := by obtain ⟨a1, a2, a3, a4, _⟩ := hr; have := hm.2.2.2.1 j (List.mem_cons_self ..); omega
  exact same (ostep_same (k := 0) (by omega) hj)
 case wOwn h k n j r p =>
  have hj : j < 12 := by obtain ⟨a1, a2, a3, a4, _⟩ := hr; have := hm.2.2.2.1 j (List.mem_cons_self ..); omega
  exact same (ostep_same (k := 1) (by omega) hj)
 case cDoom h s => exact mv (x := 5) (by omega) (fun _ => by omega)
 case cPromise h s =>
  refine mv (x := 3) (by omega) (fun e => ?_)
  have h2 := ho.2.2
  have h3 : stOf s = 2 := by rw [← e]; exact h2
  omega
 case sDead h w => exact mv (x := 6) (by omega) (fun _ => by omega)
 case sPart h j n w => exact same (drop_same (t12 hm.1))
 case sClosed h w => exact mv (x := 7) (by omega) (fun _ => by omega)
 case sFree h =>
  by_cases e2 : sl h = i
  ·exact .inl ⟨h, rfl, e2⟩
  ·exact same (.far (by intro e3; cases e3; exact e2 rfl))
 case sAged h j num sn => cases sn <;> exact same sld
 all_goals
  first
  | exact same sld
  | (refine same (.far ?_); intro e; cases e; done)
end
def Born (M : Mm) (h : Nat) : Prop := h / 16 < sG M (sl h) ∨ h / 16 = sG M (sl h) ∧ 2 ≤ sS M (sl h)
def EndedAt (M : Mm) (h : Nat) : Prop := h / 16 < sG M (sl h) ∨ h / 16 = sG M (sl h) ∧ 4 ≤ sS M (sl h) ∧ (sS M (sl h) = 4 → M (.number (sl h)) ≠ 0)
theorem far_all {M : Mm} {s : Spot} {v i : Nat} (h1 : s ≠ .status i) : sG (upd M s v) i = sG M i ∧ sS (upd M s v) i = sS M i := by
 have e : upd M s v (.status i) = M (.status i) := upd_ne _ _ (Ne.symm h1)
 constructor <;> simp only [sG, sS, e]
theorem born_step {c : Cfg} {M : Mm} {id : Nat} (hr : c.right) (st : TSt) (hm : tOK c id st) (hw : tWd st) (ho : ownT M st) {h : Nat} (hb : Born M h) : Born (upd M (tstep c id M st).1.1 (tstep c id M st).1.2) h := by
 have far : ∀ {sp : Spot} {v : Nat}, sp ≠ .status (sl h) → Born (upd M sp v) h := by
  intro sp v hne
  have e := far_all (M := M) (v := v) hne
  unfold Born; rw [e.1, e.2]; exact hb
 cases st with
 | idle a => simp only [tstep, upd_ld]; exact hb
 | pinLoad m => simp only [tstep, upd_ld]; exact hb
 | pinLay e m => exact far (by intro e; cases e)
 | leave kd a => exact far (by intro e; cases e)
 | work m =>
  rcases step_up (id := id) hr m hm.1 hw ho (sl h) with ⟨x, rfl, h2⟩ | ⟨h1, h2, _⟩
  ·left
   have k := tk_of (c := c) (h := x) hm.1
   have h3 : sG M (sl x) = x / 16 := ho.2.1
   have e : sG (upd M (.status (sl x)) (St.wordN (x / 16 + 1) 0 false false false 0 0)) (sl x) = x / 16 + 1 := by
    simp only [sG, upd_at]; exact (gn_word _ (by omega)).2.1
   show h / 16 < sG (upd M (.status (sl x)) (St.wordN (x / 16 + 1) 0 false false false 0 0)) (sl h)
   rw [← h2, e]
   unfold Born at hb
   rw [← h2] at hb
   omega
  ·unfold Born
   show h / 16 < sG (upd M (mstep c id M m).1.1 (mstep c id M m).1.2) (sl h) ∨ h / 16 = sG (upd M (mstep c id M m).1.1 (mstep c id M m).1.2) (sl h) ∧ 2 ≤ sS (upd M (mstep c id M m).1.1 (mstep c id M m).1.2) (sl h)
   rw [h1]
   rcases hb with hb | ⟨hb1, hb2⟩
   ·exact .inl hb
   ·exact .inr ⟨hb1, h2 hb2⟩
theorem ended_step {c : Cfg} {M : Mm} {id : Nat} (hr : c.right) (st : TSt) (hm : tOK c id st) (hw : tWd st) (ho : ownT M st) (hlp : ∀ m w, st = .work m → helpW m = some w → 1 ≤ w / 16) {h : Nat} (hb : EndedAt M h) : EndedAt (upd M (tstep c id M st).1.1 (tstep c id M st).1.2) h := by
 have far : ∀ {sp : Spot} {v : Nat}, sp ≠ .status (sl h) → sp ≠ .number (sl h) → EndedAt (upd M sp v) h := by
  intro sp v hne hne2
  have e := far_all (M := M) (v := v) hne
  have e2 : upd M sp v (.number (sl h)) = M (.number (sl h)) := upd_ne _ _ (Ne.symm hne2)
  unfold EndedAt; rw [e.1, e.2, e2]; exact hb
 cases st with
 | idle a => simp only [tstep, upd_ld]; exact hb
 | pinLoad m => simp only [tstep, upd_ld]; exact hb
 | pinLay e m => exact far (by intro e; cases e) (by intro e; cases e)
 | leave kd a => exact far (by intro e; cases e) (by intro e; cases e)
 | work m =>
  rcases step_up (id := id) hr m hm.1 hw ho (sl h) with ⟨x, rfl, h2⟩ | ⟨h1, _, h3⟩
  ·left
   have k := tk_of (c := c) (h := x) hm.1
   have h3 : sG M (sl x) = x / 16 := ho.2.1
   have e : sG (upd M (.status (sl x)) (St.wordN (x / 16 + 1) 0 false false false 0 0)) (sl x) = x / 16 + 1 := by
    simp only [sG, upd_at]; exact (gn_word _ (by omega)).2.1
   show h / 16 < sG (upd M (.status (sl x)) (St.wordN (x / 16 + 1) 0 false false false 0 0)) (sl h)
   rw [← h2, e]
   unfold EndedAt at hb
   rw [← h2] at hb
   omega
  ·unfold EndedAt
   show h / 16 < sG (upd M (mstep c id M m).1.1 (mstep c id M m).1.2) (sl h) ∨ h / 16 = sG (upd M (mstep c id M m).1.1 (mstep c id M m).1.2) (sl h) ∧ 4 ≤ sS (upd M (mstep c id M m).1.1 (mstep c id M m).1.2) (sl h) ∧ (sS (upd M (mstep c id M m).1.1 (mstep c id M m).1.2) (sl h) = 4 → upd M (mstep c id M m).1.1 (mstep c id M m).1.2 (.number (sl h)) ≠ 0)
   rw [h1]
   rcases hb with hb | ⟨hb1, hb2, hb3⟩
   ·exact .inl hb
   ·obtain ⟨h4, h5⟩ := h3 hb2
    refine .inr ⟨hb1, h4, fun e4 => ?_⟩
    have hn := hb3 (h5 e4)
    rcases step_num (c := c) (id := id) (M := M) m (sl h) with e | ⟨e1, w, e2, e3⟩ | ⟨x, rfl, e2, e3⟩
    ·rw [e]; exact hn
    ·exact (hn e1).elim
    ·exfalso
     have h7 := ho.2.2
     simp only at h7
     rw [e2] at h7
     have := h5 e4
     omega
end Go.Proofs.YtfinmiakbpmjiaaGreat.Um
