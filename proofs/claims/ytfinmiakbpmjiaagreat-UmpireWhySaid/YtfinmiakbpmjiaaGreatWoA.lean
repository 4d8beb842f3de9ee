/-
  One thread of the world.
-/
import Derived.Test.YtfinmiakbpmjiaaGreatAxA
import Derived.Test.YtfinmiakbpmjiaaGreatUmI
set_option linter.unusedSimpArgs false
set_option linter.unusedVariables false
set_option maxRecDepth 100000
namespace Go.Proofs.YtfinmiakbpmjiaaGreat.Ax
open Go Go.RowKit Go.Proofs.YtfinmiakbpmjiaaGreat
theorem idle_no (c : Cfg) (mb wb t : Nat) (id : Int) (vp dv a1 a2 a3 : Value) (cnt : Nat) (M : Spot → Nat) (fk : Fn) (fa fc : Array Value) : RunsF c mb wb 36 #[pt t] [thB c t id (.func fk fa fc) vp dv a1 a2 a3] M cnt 0 fun v hp' M' => v = .bool false ∧ hp' = [thB c t id (.func fk fa fc) vp dv a1 a2 a3] ∧ M' = M :=
 runsF_of [0] [0] (fun gs => .bool false) (fun gs => [thB c t id (.func fk fa fc) vp dv a1 a2 a3]) (fun gs => M) (fun gs => []) (fun br gs => by kernel_rfl) (by decide) (fun gs => trivial) (fun gs => ⟨rfl, rfl, rfl⟩)
theorem idle_yes (c : Cfg) (mb wb t : Nat) (id : Int) (vp dv a1 a2 a3 : Value) (cnt : Nat) (M : Spot → Nat) : RunsF c mb wb 36 #[pt t] [thB c t id .nilFunc vp dv a1 a2 a3] M cnt 0 fun v hp' M' => v = .bool true ∧ hp' = [thB c t id .nilFunc vp dv a1 a2 a3] ∧ M' = M :=
 runsF_of [0] [0] (fun gs => .bool true) (fun gs => [thB c t id .nilFunc vp dv a1 a2 a3]) (fun gs => M) (fun gs => []) (fun br gs => by kernel_rfl) (by decide) (fun gs => trivial) (fun gs => ⟨rfl, rfl, rfl⟩)
theorem step_idle (c : Cfg) (mb wb t : Nat) (id : Int) (vp dv a1 a2 a3 : Value) (cnt : Nat) (M : Spot → Nat) : RunsF c mb wb 60 #[pt t, pt mb] [thB c t id .nilFunc vp dv a1 a2 a3] M cnt 0 fun v hp' M' => v = .bool false ∧ hp' = [thB c t id .nilFunc vp dv a1 a2 a3] ∧ M' = M :=
 runsF_of [0,3] [0] (fun gs => .bool false) (fun gs => [thB c t id .nilFunc vp dv a1 a2 a3]) (fun gs => M) (fun gs => []) (fun br gs => by kernel_rfl) (by decide) (fun gs => trivial) (fun gs => ⟨rfl, rfl, rfl⟩)
theorem answer_of (c : Cfg) (mb wb t : Nat) (id : Int) (st vp dv : Value) (e : Int) (h n : Nat) (cnt : Nat) (M : Spot → Nat) : RunsF c mb wb 62 #[pt t] [thB c t id st vp dv (vi e) (vu h) (vu n)] M cnt 0 fun v hp' M' => v = .agg #[vi e, vu h, vu n] ∧ hp' = [thB c t id st vp dv (vi e) (vu h) (vu n)] ∧ M' = M :=
 runsF_of [0,0,0,1,1,1,1,1,1] [0] (fun gs => .agg #[vi e, vu h, vu n]) (fun gs => [thB c t id st vp dv (vi e) (vu h) (vu n)]) (fun gs => M) (fun gs => []) (fun br gs => by kernel_rfl) (by decide) (fun gs => trivial) (fun gs => ⟨rfl, rfl, rfl⟩)
end Go.Proofs.YtfinmiakbpmjiaaGreat.Ax
namespace Go.Proofs.YtfinmiakbpmjiaaGreat.Um
open Go Go.RowKit Go.Proofs.YtfinmiakbpmjiaaGreat Go.Proofs.YtfinmiakbpmjiaaGreat.Ax
structure WE where
 M : Mm
 n : Nat
 th : Nat → TSt
def setTh (f : Nat → TSt) (k : Nat) (s : TSt) : Nat → TSt := fun j => if j = k then s else f j
theorem setTh_same (f : Nat → TSt) (k : Nat) : setTh f k (f k) = f := by
 funext j
 unfold setTh
 split
 ·rename_i h; rw [h]
 ·rfl
structure Threads (c : Cfg) (mb wb nt : Nat) (tb : Nat → Nat) (th : Nat → TSt) (w : World) (F : List Nat) (B : Nat → List Blk) : Prop where
 form : ∀ k, k < nt → TForm c (tb k) k (th k) (B k)
 has : ∀ k, k < nt → Has w (B k)
 far : ∀ j k, j < nt → k < nt → j ≠ k → ∀ x ∈ B j, ∀ y ∈ B k, x.b ≠ y.b
 mem : ∀ k, k < nt → ∀ x ∈ B k, x.b ≠ mb ∧ x.b ≠ wb ∧ x.b ∈ F
def WI (c : Cfg) (mb wb nt : Nat) (tb : Nat → Nat) (e : WE) (w : World) (F : List Nat) : Prop := MemAt w mb wb c e.M e.n ∧ mb ∈ F ∧ wb ∈ F ∧ ∃ B, Threads c mb wb nt tb e.th w F B
theorem WI.stable {c : Cfg} {mb wb nt : Nat} {tb : Nat → Nat} {e : WE} {w w' : World} {L F : List Nat} (h : WI c mb wb nt tb e w F) (k : Only L w w') (hF : ∀ x ∈ F, x ∉ L) : WI c mb wb nt tb e w' F := by
 obtain ⟨h1, h2, h3, B, hB⟩ := h
 exact ⟨h1.keep k (hF _ h2) (hF _ h3), h2, h3, B, hB.form, fun j hj => ⟨(hB.has j hj).nd, fun x hx => holds_only ((hB.has j hj).each x hx) k (hF _ (hB.mem j hj x hx).2.2)⟩, hB.far, hB.mem⟩
def sideW (c : Cfg) (mb wb nt : Nat) (tb : Nat → Nat) : Side := { E := WE, I := WI c mb wb nt tb, stable := fun e w w' L F h k hF => h.stable k hF }
theorem world_call {c : Cfg} {mb wb nt : Nat} {tb : Nat → Nat} {e : WE} {w : World} {F : List Nat} {f : FuncId} {args : Array Value} {k n' : Nat} {v0 : Value} {M1 : Mm} {st' : TSt} (hk : k < nt) (hI : WI c mb wb nt tb e w F) (hF : ∀ b ∈ F, b < w.heap.size)
  (hc : ∀ B, TForm c (tb k) k (e.th k) B → Has w B → MemAt w mb wb c e.M e.n → (∀ x ∈ B, x.b ≠ mb ∧ x.b ≠ wb) → CallW c mb wb f args w B n' fun v B' M' => v = v0 ∧ TForm c (tb k) k st' B' ∧ M' = M1) :
  Calls Tryz.prog f args w fun en w' => en = .returned v0 ∧ ∃ F', WI c mb wb nt tb ⟨M1, n', setTh e.th k st'⟩ w' F' ∧ Only F w w' ∧ ∀ b ∈ F', b < w'.heap.size ∧ (b ∈ F ∨ w.heap.size ≤ b) := by
 obtain ⟨h1, h2, h3, B, hB⟩ := hI
 refine Calls.mono (hc (B k) (hB.form k hk) (hB.has k hk) h1 fun x hx => ⟨(hB.mem k hk x hx).1, (hB.mem k hk x hx).2.1⟩) ?_
 rintro en w' ⟨v, B', M', rfl, ⟨rfl, hf, rfl⟩, hh, hm, ho, hx⟩
 refine ⟨rfl, F ++ B'.map (·.b), ⟨hm, List.mem_append.2 (.inl h2), List.mem_append.2 (.inl h3), fun j => if j = k then B' else B j, ?_⟩, ?_, ?_⟩
 ·refine ⟨fun j hj => ?_, fun j hj => ?_, fun i j hi hj hij x hxi y hyj => ?_, fun j hj x hxj => ?_⟩
  ·simp only [setTh]
   by_cases e : j = k
   ·subst e; simp only [if_true]; exact hf
   ·simp only [if_neg e]; exact hB.form j hj
  ·by_cases e : j = k
   ·simp only [if_pos e]; exact hh
   ·simp only [if_neg e]
    refine ⟨(hB.has j hj).nd, fun x hxj => holds_only ((hB.has j hj).each x hxj) ho ?_⟩
    intro h4
    rcases List.mem_append.1 h4 with h5 | h5
    ·obtain ⟨y, hy, e2⟩ := List.mem_map.1 h5
     exact hB.far k j hk hj (Ne.symm e) y hy x hxj e2
    ·simp at h5
     rcases h5 with h5 | h5
     ·exact (hB.mem j hj x hxj).1 h5
     ·exact (hB.mem j hj x hxj).2.1 h5
  ·by_cases e1 : i = k
   ·have e2 : j ≠ k := fun e => hij (e1.trans e.symm)
    simp only [if_pos e1] at hxi
    simp only [if_neg e2] at hyj
    rcases (hx x hxi).2.2 with h4 | h4
    ·obtain ⟨z, hz, e3⟩ := List.mem_map.1 h4
     rw [← e3]
     exact hB.far k j hk hj (Ne.symm e2) z hz y hyj
    ·have := holds_lt ((hB.has j hj).each y hyj)
     omega
   ·simp only [if_neg e1] at hxi
    by_cases e2 : j = k
    ·simp only [if_pos e2] at hyj
     rcases (hx y hyj).2.2 with h4 | h4
     ·obtain ⟨z, hz, e3⟩ := List.mem_map.1 h4
      rw [← e3]
      exact hB.far i k hi hk e1 x hxi z hz
     ·have := holds_lt ((hB.has i hi).each x hxi)
      omega
    ·simp only [if_neg e2] at hyj
     exact hB.far i j hi hj hij x hxi y hyj
  ·by_cases e1 : j = k
   ·simp only [if_pos e1] at hxj
    exact ⟨(hx x hxj).1, (hx x hxj).2.1, List.mem_append.2 (.inr (List.mem_map.2 ⟨x, hxj, rfl⟩))⟩
   ·simp only [if_neg e1] at hxj
    exact ⟨(hB.mem j hj x hxj).1, (hB.mem j hj x hxj).2.1, List.mem_append.2 (.inl (hB.mem j hj x hxj).2.2)⟩
 ·refine ho.wide fun b hb => ?_
  rcases List.mem_append.1 hb with h4 | h4
  ·obtain ⟨y, hy, rfl⟩ := List.mem_map.1 h4
   exact (hB.mem k hk y hy).2.2
  ·simp at h4
   rcases h4 with rfl | rfl
   ·exact h2
   ·exact h3
 ·intro b hb
  rcases List.mem_append.1 hb with h4 | h4
  ·exact ⟨Nat.lt_of_lt_of_le (hF b h4) ho.size, .inl h4⟩
  ·obtain ⟨y, hy, rfl⟩ := List.mem_map.1 h4
   refine ⟨holds_lt (hh.each y hy), ?_⟩
   rcases (hx y hy).2.2 with h5 | h5
   ·obtain ⟨z, hz, e⟩ := List.mem_map.1 h5
    rw [← e]
    exact .inl (hB.mem k hk z hz).2.2
   ·exact .inr h5
section
variable (c : Cfg) (mb wb nt : Nat) (tb : Nat → Nat) (k : Nat)
abbrev SW := St (sideW c mb wb nt tb).E
abbrev XW := Array Value → SW c mb wb nt tb → Tree (Value × SW c mb wb nt tb)
def StepOK (e : WE) (k : Nat) : Prop := c.right ∧ MemOK c e.M ∧ e.n < 1000000000 ∧ (k : Int) < c.T ∧ tOK c k (e.th k)
def stepE (e : WE) (k : Nat) : WE := ⟨upd e.M (tstep c k e.M (e.th k)).1.1 (tstep c k e.M (e.th k)).1.2, e.n + 1, setTh e.th k (tstep c k e.M (e.th k)).2⟩
def Rests (s : TSt) : Prop := s.isIdle = true
def TSt.ans : TSt → Ans
 | .idle a => a
 | _ => ⟨0, 0, 0⟩
def stepX : XW c mb wb nt tb := fun args s => match args.toList with
 | [.pointer (some ⟨b, 0, none⟩), .pointer (some ⟨m, 0, none⟩)] => .same b (tb k) (.same m mb (.ask (k < nt) (tested (s.e.th k).isIdle s fun i s => match i with
  | true => .done (.bool false, s)
  | false => .ask (StepOK c s.e k) (.done (.bool true, { s with e := stepE c s.e k })))))
 | _ => .fail
def startX : XW c mb wb nt tb := fun args s => match args.toList with
 | [.pointer (some ⟨b, 0, none⟩), .agg cs] => match cs.toList with
  | [.int .i64 kd, .int .u64 h, .int .i64 kk] => .same b (tb k) (.ask (k < nt) (.ask (is64 h) (.done (.bool (tstart c kd h.toNat kk (s.e.th k)).1, { s with e := { s.e with th := setTh s.e.th k (tstart c kd h.toNat kk (s.e.th k)).2 } }))))
  | _ => .fail
 | _ => .fail
def idleX : XW c mb wb nt tb := fun args s => match args.toList with
 | [.pointer (some ⟨b, 0, none⟩)] => .same b (tb k) (.ask (k < nt) (.done (.bool (s.e.th k).isIdle, s)))
 | _ => .fail
def answerX : XW c mb wb nt tb := fun args s => match args.toList with
 | [.pointer (some ⟨b, 0, none⟩)] => .same b (tb k) (.ask (k < nt) (.ask (Rests (s.e.th k)) (.done (.agg #[vi (s.e.th k).ans.e, vu (s.e.th k).ans.h, vu (s.e.th k).ans.n], s))))
 | _ => .fail
def countW : XW c mb wb nt tb := fun args s => match args.toList with
 | [.pointer (some ⟨b, 0, none⟩)] => .same b mb (.done (.int .i64 (s.e.n : Int), s))
 | _ => .fail
end
section
variable {c : Cfg} {mb wb nt : Nat} {tb : Nat → Nat} {k : Nat}
theorem turned {L : List Nat} {w0 w w' : World} {pr : Prot} {PN : List (Nat × Blk)} {NM : List Nat} {s : SW c mb wb nt tb} {F : List Nat} {e : WE} (hr : Rel (sideW c mb wb nt tb) L w0 pr PN NM s w) (hf : Foot (sideW c mb wb nt tb) L w0 s w F) (orc : List Nat)
  (h : ∃ F', WI c mb wb nt tb e w' F' ∧ Only F w w' ∧ ∀ b ∈ F', b < w'.heap.size ∧ (b ∈ F ∨ w.heap.size ≤ b)) : Rel (sideW c mb wb nt tb) L w0 pr PN NM { s with e := e, orc := orc } w' := by
 obtain ⟨F', h1, h2, h3⟩ := h
 exact (hr.turn hf h2 h1 h3).orc orc
theorem stepX_ok : ExtOK (sideW c mb wb nt tb) 60 (stepX c mb wb nt tb k) := by
 intro L w0 pr PN NM args s w Q h hr
 unfold stepX at h
 split at h
 ·rename_i b m hargs
  obtain ⟨rfl, rfl, hk, h⟩ := h
  rw [arr_of hargs]
  obtain ⟨F, hfo⟩ := hr.side
  have hF := fun b hb => (hfo.foot b hb).1
  obtain ⟨o, h⟩ := sat_tested h
  cases hi : (s.e.th k).isIdle
  ·rw [hi] at h
   obtain ⟨⟨k1, k2, k3, k4, k5⟩, h⟩ := h
   refine (world_call hk hfo.inv hF fun B h1 h2 h3 h4 => tstep_ok k1 k2 k3 k4 k5 h1 hi h2 h3 h4).mono ?_
   rintro e w' ⟨rfl, h5⟩
   exact ⟨_, _, rfl, h, turned hr hfo o h5⟩
  ·rw [hi] at h
   refine (world_call (v0 := .bool false) (M1 := s.e.M) (n' := s.e.n) (st' := s.e.th k) hk hfo.inv hF fun B h1 h2 h3 h4 => ?_).mono ?_
   ·cases hst : s.e.th k with
    | idle a =>
     rw [hst] at h1
     obtain ⟨pv, dv, X, rfl⟩ := h1
     refine (callW_of (hp := [_]) (X := X) (step_idle _ _ _ _ _ _ _ _ _ _ _ _) h2 h3 h4).mono ?_
     rintro v B' M' ⟨hp', ⟨rfl, rfl, rfl⟩, rfl⟩
     exact ⟨_, List.Sublist.refl _, rfl, ⟨_, _, _, rfl⟩, rfl⟩
    | _ => rw [hst] at hi; cases hi
   ·rintro e w' ⟨rfl, h5⟩
    rw [setTh_same] at h5
    exact ⟨_, _, rfl, h, turned hr hfo o h5⟩
 ·exact h.elim
theorem startX_ok : ExtOK (sideW c mb wb nt tb) 34 (startX c mb wb nt tb k) := by
 intro L w0 pr PN NM args s w Q h hr
 unfold startX at h
 split at h
 ·rename_i b cs hargs
  split at h
  ·rename_i kd hh kk hcs
   obtain ⟨rfl, hk, h64, h⟩ := h
   obtain ⟨F, hfo⟩ := hr.side
   have hF := fun b hb => (hfo.foot b hb).1
   obtain ⟨e64, hlt⟩ := nat_of h64
   rw [arr_of hargs, arr_of hcs, e64]
   refine (world_call hk hfo.inv hF fun B h1 h2 h3 h4 => tstart_ok hlt h1 h2 h3 h4).mono ?_
   rintro e w' ⟨rfl, h5⟩
   exact ⟨_, _, rfl, h, turned hr hfo s.orc h5⟩
  ·exact h.elim
 ·exact h.elim
theorem idleX_ok : ExtOK (sideW c mb wb nt tb) 36 (idleX c mb wb nt tb k) := by
 intro L w0 pr PN NM args s w Q h hr
 unfold idleX at h
 split at h
 ·rename_i b hargs
  obtain ⟨rfl, hk, h⟩ := h
  rw [arr_of hargs]
  obtain ⟨F, hfo⟩ := hr.side
  have hF := fun b hb => (hfo.foot b hb).1
  refine (world_call (v0 := .bool (s.e.th k).isIdle) (M1 := s.e.M) (n' := s.e.n) (st' := s.e.th k) hk hfo.inv hF fun B h1 h2 h3 h4 => ?_).mono ?_
  ·cases hst : s.e.th k with
   | idle a =>
    rw [hst] at h1
    obtain ⟨pv, dv, X, rfl⟩ := h1
    refine (callW_of (hp := [_]) (X := X) (idle_yes _ _ _ _ _ _ _ _ _ _ _ _) h2 h3 h4).mono ?_
    rintro v B' M' ⟨hp', ⟨rfl, rfl, rfl⟩, rfl⟩
    exact ⟨_, List.Sublist.refl _, rfl, ⟨_, _, _, rfl⟩, rfl⟩
   | pinLoad m =>
    rw [hst] at h1
    have h1' := h1
    obtain ⟨pb, pe, d, a1, a2, a3, X, rfl, hX⟩ := h1
    refine (callW_of (hp := [_]) (X := _) (idle_no _ _ _ _ _ _ _ _ _ _ _ _ _ _ _) h2 h3 h4).mono ?_
    rintro v B' M' ⟨hp', ⟨rfl, rfl, rfl⟩, rfl⟩
    exact ⟨_, List.Sublist.refl _, rfl, h1', rfl⟩
   | pinLay e m =>
    rw [hst] at h1
    have h1' := h1
    obtain ⟨pb, d, a1, a2, a3, X, rfl, hX⟩ := h1
    refine (callW_of (hp := [_]) (X := _) (idle_no _ _ _ _ _ _ _ _ _ _ _ _ _ _ _) h2 h3 h4).mono ?_
    rintro v B' M' ⟨hp', ⟨rfl, rfl, rfl⟩, rfl⟩
    exact ⟨_, List.Sublist.refl _, rfl, h1', rfl⟩
   | work m =>
    rw [hst] at h1
    have h1' := h1
    obtain ⟨vp, d, a1, a2, a3, X, rfl, hX⟩ := h1
    refine (callW_of (hp := [_]) (X := _) (idle_no _ _ _ _ _ _ _ _ _ _ _ _ _ _ _) h2 h3 h4).mono ?_
    rintro v B' M' ⟨hp', ⟨rfl, rfl, rfl⟩, rfl⟩
    exact ⟨_, List.Sublist.refl _, rfl, h1', rfl⟩
   | leave kd a =>
    rw [hst] at h1
    have h1' := h1
    obtain ⟨vp, d, a1, a2, a3, X, rfl, hX⟩ := h1
    refine (callW_of (hp := [_]) (X := _) (idle_no _ _ _ _ _ _ _ _ _ _ _ _ _ _ _) h2 h3 h4).mono ?_
    rintro v B' M' ⟨hp', ⟨rfl, rfl, rfl⟩, rfl⟩
    exact ⟨_, List.Sublist.refl _, rfl, h1', rfl⟩
  ·rintro e w' ⟨rfl, h5⟩
   rw [setTh_same] at h5
   exact ⟨_, _, rfl, h, turned hr hfo s.orc h5⟩
 ·exact h.elim
theorem answerX_ok : ExtOK (sideW c mb wb nt tb) 62 (answerX c mb wb nt tb k) := by
 intro L w0 pr PN NM args s w Q h hr
 unfold answerX at h
 split at h
 ·rename_i b hargs
  obtain ⟨rfl, hk, hi, h⟩ := h
  rw [arr_of hargs]
  obtain ⟨F, hfo⟩ := hr.side
  have hF := fun b hb => (hfo.foot b hb).1
  refine (world_call (v0 := .agg #[vi (s.e.th k).ans.e, vu (s.e.th k).ans.h, vu (s.e.th k).ans.n]) (M1 := s.e.M) (n' := s.e.n) (st' := s.e.th k) hk hfo.inv hF fun B h1 h2 h3 h4 => ?_).mono ?_
  ·cases hst : s.e.th k with
   | idle a =>
    rw [hst] at h1
    obtain ⟨pv, dv, X, rfl⟩ := h1
    refine (callW_of (hp := [_]) (X := X) (answer_of _ _ _ _ _ _ _ _ _ _ _ _ _) h2 h3 h4).mono ?_
    rintro v B' M' ⟨hp', ⟨rfl, rfl, rfl⟩, rfl⟩
    exact ⟨_, List.Sublist.refl _, rfl, ⟨_, _, _, rfl⟩, rfl⟩
   | _ => rw [hst] at hi; cases hi
  ·rintro e w' ⟨rfl, h5⟩
   rw [setTh_same] at h5
   exact ⟨_, _, rfl, h, turned hr hfo s.orc h5⟩
 ·exact h.elim
theorem countW_ok : ExtOK (sideW c mb wb nt tb) 61 (countW c mb wb nt tb) := by
 intro L w0 pr PN NM args s w Q h hr
 unfold countW at h
 split at h
 ·rename_i b hargs
  obtain ⟨rfl, h⟩ := h
  rw [arr_of hargs]
  obtain ⟨F, hfo⟩ := hr.side
  refine (Count_any b wb c _ _ w hfo.inv.1).mono ?_
  rintro e w' ⟨rfl, hb⟩
  exact ⟨_, s, rfl, h, hr.below hb⟩
 ·exact h.elim
end
def tableW (c : Cfg) (mb wb nt : Nat) (tb : Nat → Nat) (k : Nat) : List (FuncId × XW c mb wb nt tb) := [(60, stepX c mb wb nt tb k), (34, startX c mb wb nt tb k), (36, idleX c mb wb nt tb k), (62, answerX c mb wb nt tb k), (61, countW c mb wb nt tb)]
theorem tableW_ok (c : Cfg) (mb wb nt : Nat) (tb : Nat → Nat) (k : Nat) : ∀ p ∈ tableW c mb wb nt tb k, ExtOK (sideW c mb wb nt tb) p.1 p.2 := by
 intro p hp
 simp only [tableW, List.mem_cons, List.not_mem_nil, or_false] at hp
 rcases hp with rfl | rfl | rfl | rfl | rfl
 ·exact stepX_ok
 ·exact startX_ok
 ·exact idleX_ok
 ·exact answerX_ok
 ·exact countW_ok
def extW (c : Cfg) (mb wb nt : Nat) (tb : Nat → Nat) (k : Nat) : Ext (sideW c mb wb nt tb) Tryz.prog := { f := Ax.look (tableW c mb wb nt tb k), ok := fun g x h => tableW_ok c mb wb nt tb k (g, x) (look_mem h) }
def wdB (wd mb : Nat) (wks evs : Value) : Blk := ⟨wd, .vals #[pt mb, wks, evs], 77⟩
def wkB (wk : Nat) (pre : Array Value) (t : Nat) (ev : Int) (post : Array Value) : Blk := ⟨wk, .win pre #[pt t, vi ev] post, 94⟩
def evB (eb : Nat) (pre : Array Value) (thr kd : Int) (h : Nat) (k e : Int) (ah an : Nat) (bg en : Int) (dn : Bool) (post : Array Value) : Blk :=
 ⟨eb, .win pre #[vi thr, vi kd, vu h, vi k, vi e, vu ah, vu an, vi bg, vi en, .bool dn] post, 70⟩
def RunsW (c : Cfg) (mb wb nt : Nat) (tb : Nat → Nat) (f : FuncId) (args : Array Value) (hp : List Blk) (e : WE) (R : Value → List Blk → WE → Prop) : Prop :=
 ∀ L w0 w, Rel0 (sideW c mb wb nt tb) L w0 ⟨hp, e, []⟩ w → Calls Tryz.prog f args w fun en w' => ∃ v hp' e', en = .returned v ∧ R v hp' e' ∧ Rel0 (sideW c mb wb nt tb) L w0 ⟨hp', e', []⟩ w'
noncomputable def runW (c : Cfg) (mb wb nt : Nat) (tb : Nat → Nat) (k : Nat) (f : FuncId) (args : Array Value) (hp : List Blk) (e : WE) (o : List Nat) (br : List Bool) (gs : Nat → Nat) : Option (Out (Value × St (sideW c mb wb nt tb).E)) :=
 (bodyT Tryz.prog (extW c mb wb nt tb k).f 40 30 ⟨0, []⟩ f args ⟨hp, e, o⟩).close gs br 0
theorem runsW_both {c : Cfg} {mb wb nt : Nat} {tb : Nat → Nat} (k : Nat) {f : FuncId} {args : Array Value} {hp : List Blk} {e : WE} {R : Value → List Blk → WE → Prop} (o : List Nat) (is : List Bool → List Nat) (v : Value) (bl : List Blk) (e' : WE) (cs : List Prop)
  (h : ∀ br gs, check (is br) (runW c mb wb nt tb k f args hp e o br gs) = some (v, bl.map some, e', cs, rights (runW c mb wb nt tb k f args hp e o br gs)))
  (hn : ∀ br, (is br).Nodup) (hc : all cs) (hR : R v bl e') : RunsW c mb wb nt tb f args hp e R := by
 intro L w0 w hr
 refine (calls_of_check (X := extW c mb wb nt tb k) mixed is (fun _ _ => v) (fun _ _ => bl) (fun _ _ => e') (fun _ _ => cs) h (fun _ _ => hc) hn (hr.orc o)).mono ?_
 rintro en w' ⟨br, gs, rfl, hr'⟩
 exact ⟨_, _, _, rfl, hR, hr'⟩
theorem step_goes (c : Cfg) (mb wb nt : Nat) (tb : Nat → Nat) (wd wk eb k : Nat) (id : Int) (capw : Nat) (preW postW : Array Value) (ei : Int) (ne cape : Nat) (preE postE : Array Value) (thr kd : Int) (h : Nat) (kk ae : Int) (ah an : Nat) (bg en : Int) (dn : Bool) (e : WE) (hc : all [(decide (id ≥ 0)) = true, (!decide (id < (nt : Int))) = false, (0 : Int) ≤ id, id < (nt : Int), id.toNat * 2 = preW.size, k < nt, (e.th k).isIdle = false, StepOK c e k, (0 : Int) ≤ id, id < (nt : Int), id.toNat * 2 = preW.size, id.toNat * 2 + 1 = preW.size + 1, (0 : Int) ≤ ei, ei < (ne : Int), ei.toNat * 10 + 7 = preE.size + 7, (bg == 0) = false, k < nt, ((stepE c e k).th k).isIdle = false]) : RunsW c mb wb nt tb 35 #[pt wd, vi id] [wdB wd mb (.slice (some ⟨wk, 0, none⟩) nt capw) (.slice (some ⟨eb, 0, none⟩) ne cape), wkB wk preW (tb k) ei postW, evB eb preE thr kd h kk (ae) (ah) (an) (bg) (en) dn postE] e fun v hp' e' => v = .bool true ∧ hp' = [wdB wd mb (.slice (some ⟨wk, 0, none⟩) nt capw) (.slice (some ⟨eb, 0, none⟩) ne cape), wkB wk preW (tb k) ei postW, evB eb preE thr kd h kk (ae) (ah) (an) (bg) (en) dn postE] ∧ e' = stepE c e k :=
 runsW_both k [21,0,0,4,9,1,3,3,3,3,0,3,3,199,3,12,16,20,0,24,2,28,2,32,2,0,36,2,40,2,199,44,2,48,2,1,0,52,2,56,2,60,2,64,2,68,2,0,73,2,0,76,2,80,199,2,2,0,199,1,0,1,1,3,3,8,0,0,4,8,12,0,16,20,3,24,199,28,2,7,0,3,0] (fun _ => [0,1,2]) _ _ _ _ (fun _ _ => by kernel_rfl) (fun _ => by decide) hc ⟨rfl, rfl, rfl⟩
theorem step_goes_first (c : Cfg) (mb wb nt : Nat) (tb : Nat → Nat) (wd wk eb k : Nat) (id : Int) (capw : Nat) (preW postW : Array Value) (ei : Int) (ne cape : Nat) (preE postE : Array Value) (thr kd : Int) (h : Nat) (kk ae : Int) (ah an : Nat) (bg en : Int) (dn : Bool) (e : WE) (hc : all [(decide (id ≥ 0)) = true, (!decide (id < (nt : Int))) = false, (0 : Int) ≤ id, id < (nt : Int), id.toNat * 2 = preW.size, k < nt, (e.th k).isIdle = false, StepOK c e k, (0 : Int) ≤ id, id < (nt : Int), id.toNat * 2 = preW.size, id.toNat * 2 + 1 = preW.size + 1, (0 : Int) ≤ ei, ei < (ne : Int), ei.toNat * 10 + 7 = preE.size + 7, (bg == 0) = true, ei.toNat * 10 + 7 = preE.size + 7, k < nt, ((stepE c e k).th k).isIdle = false]) : RunsW c mb wb nt tb 35 #[pt wd, vi id] [wdB wd mb (.slice (some ⟨wk, 0, none⟩) nt capw) (.slice (some ⟨eb, 0, none⟩) ne cape), wkB wk preW (tb k) ei postW, evB eb preE thr kd h kk (ae) (ah) (an) (bg) (en) dn postE] e fun v hp' e' => v = .bool true ∧ hp' = [wdB wd mb (.slice (some ⟨wk, 0, none⟩) nt capw) (.slice (some ⟨eb, 0, none⟩) ne cape), wkB wk preW (tb k) ei postW, evB eb preE thr kd h kk (ae) (ah) (an) (((e.n + 1 : Nat) : Int)) (en) dn postE] ∧ e' = stepE c e k :=
 runsW_both k [21,0,0,4,9,1,3,3,3,3,0,3,3,199,3,12,16,20,0,24,2,28,2,32,2,0,36,2,40,2,199,44,2,48,2,1,0,52,2,56,2,60,2,64,2,68,2,0,73,2,0,76,2,80,199,2,2,0,199,1,0,1,1,3,3,8,0,0,4,8,12,0,16,20,3,24,199,28,2,7,1,0,2,7,3,0] (fun _ => [0,1,2]) _ _ _ _ (fun _ _ => by kernel_rfl) (fun _ => by decide) hc ⟨rfl, rfl, rfl⟩
theorem step_ends (c : Cfg) (mb wb nt : Nat) (tb : Nat → Nat) (wd wk eb k : Nat) (id : Int) (capw : Nat) (preW postW : Array Value) (ei : Int) (ne cape : Nat) (preE postE : Array Value) (thr kd : Int) (h : Nat) (kk ae : Int) (ah an : Nat) (bg en : Int) (dn : Bool) (e : WE) (hc : all [(decide (id ≥ 0)) = true, (!decide (id < (nt : Int))) = false, (0 : Int) ≤ id, id < (nt : Int), id.toNat * 2 = preW.size, k < nt, (e.th k).isIdle = false, StepOK c e k, (0 : Int) ≤ id, id < (nt : Int), id.toNat * 2 = preW.size, id.toNat * 2 + 1 = preW.size + 1, (0 : Int) ≤ ei, ei < (ne : Int), ei.toNat * 10 + 7 = preE.size + 7, (bg == 0) = false, k < nt, ((stepE c e k).th k).isIdle = true, k < nt, Rests ((stepE c e k).th k), ei.toNat * 10 + 8 = preE.size + 8, ei.toNat * 10 + 4 = preE.size + 4, ei.toNat * 10 + 5 = preE.size + 5, ei.toNat * 10 + 6 = preE.size + 6, ei.toNat * 10 + 9 = preE.size + 9]) : RunsW c mb wb nt tb 35 #[pt wd, vi id] [wdB wd mb (.slice (some ⟨wk, 0, none⟩) nt capw) (.slice (some ⟨eb, 0, none⟩) ne cape), wkB wk preW (tb k) ei postW, evB eb preE thr kd h kk (ae) (ah) (an) (bg) (en) dn postE] e fun v hp' e' => v = .bool true ∧ hp' = [wdB wd mb (.slice (some ⟨wk, 0, none⟩) nt capw) (.slice (some ⟨eb, 0, none⟩) ne cape), wkB wk preW (tb k) ei postW, evB eb preE thr kd h kk (((stepE c e k).th k).ans.e) (((stepE c e k).th k).ans.h) (((stepE c e k).th k).ans.n) (bg) (((e.n + 1 : Nat) : Int)) true postE] ∧ e' = stepE c e k :=
 runsW_both k [21,0,0,4,9,1,3,3,3,3,0,3,3,199,3,12,16,20,0,24,2,28,2,32,2,0,36,2,40,2,199,44,2,48,2,1,0,52,2,56,2,60,2,64,2,68,2,0,73,2,0,76,2,80,199,2,2,0,199,1,0,1,1,3,3,8,0,0,4,8,12,0,16,20,3,24,199,28,2,7,0,3,1,14,1,3,0,6,10,12,16,20,24,28,0,38,42,0,33,45,50,52,57,2,8,62,66,69,2,4,2,5,2,6,74,78,81,2,9] (fun _ => [0,1,2]) _ _ _ _ (fun _ _ => by kernel_rfl) (fun _ => by decide) hc ⟨rfl, rfl, rfl⟩
theorem step_ends_first (c : Cfg) (mb wb nt : Nat) (tb : Nat → Nat) (wd wk eb k : Nat) (id : Int) (capw : Nat) (preW postW : Array Value) (ei : Int) (ne cape : Nat) (preE postE : Array Value) (thr kd : Int) (h : Nat) (kk ae : Int) (ah an : Nat) (bg en : Int) (dn : Bool) (e : WE) (hc : all [(decide (id ≥ 0)) = true, (!decide (id < (nt : Int))) = false, (0 : Int) ≤ id, id < (nt : Int), id.toNat * 2 = preW.size, k < nt, (e.th k).isIdle = false, StepOK c e k, (0 : Int) ≤ id, id < (nt : Int), id.toNat * 2 = preW.size, id.toNat * 2 + 1 = preW.size + 1, (0 : Int) ≤ ei, ei < (ne : Int), ei.toNat * 10 + 7 = preE.size + 7, (bg == 0) = true, ei.toNat * 10 + 7 = preE.size + 7, k < nt, ((stepE c e k).th k).isIdle = true, k < nt, Rests ((stepE c e k).th k), ei.toNat * 10 + 8 = preE.size + 8, ei.toNat * 10 + 4 = preE.size + 4, ei.toNat * 10 + 5 = preE.size + 5, ei.toNat * 10 + 6 = preE.size + 6, ei.toNat * 10 + 9 = preE.size + 9]) : RunsW c mb wb nt tb 35 #[pt wd, vi id] [wdB wd mb (.slice (some ⟨wk, 0, none⟩) nt capw) (.slice (some ⟨eb, 0, none⟩) ne cape), wkB wk preW (tb k) ei postW, evB eb preE thr kd h kk (ae) (ah) (an) (bg) (en) dn postE] e fun v hp' e' => v = .bool true ∧ hp' = [wdB wd mb (.slice (some ⟨wk, 0, none⟩) nt capw) (.slice (some ⟨eb, 0, none⟩) ne cape), wkB wk preW (tb k) ei postW, evB eb preE thr kd h kk (((stepE c e k).th k).ans.e) (((stepE c e k).th k).ans.h) (((stepE c e k).th k).ans.n) (((e.n + 1 : Nat) : Int)) (((e.n + 1 : Nat) : Int)) true postE] ∧ e' = stepE c e k :=
 runsW_both k [21,0,0,4,9,1,3,3,3,3,0,3,3,199,3,12,16,20,0,24,2,28,2,32,2,0,36,2,40,2,199,44,2,48,2,1,0,52,2,56,2,60,2,64,2,68,2,0,73,2,0,76,2,80,199,2,2,0,199,1,0,1,1,3,3,8,0,0,4,8,12,0,16,20,3,24,199,28,2,7,1,0,2,7,3,1,14,1,3,0,6,10,12,16,20,24,28,0,38,42,0,33,45,50,52,57,2,8,62,66,69,2,4,2,5,2,6,74,78,81,2,9] (fun _ => [0,1,2]) _ _ _ _ (fun _ _ => by kernel_rfl) (fun _ => by decide) hc ⟨rfl, rfl, rfl⟩
theorem step_below (c : Cfg) (mb wb nt : Nat) (tb : Nat → Nat) (wd wk k : Nat) (id : Int) (capw : Nat) (evs : Value) (e : WE) (hc : all [(decide (id ≥ 0)) = false]) : RunsW c mb wb nt tb 35 #[pt wd, vi id] [wdB wd mb (.slice (some ⟨wk, 0, none⟩) nt capw) evs] e fun v hp' e' => v = .bool false ∧ hp' = [wdB wd mb (.slice (some ⟨wk, 0, none⟩) nt capw) evs] ∧ e' = e :=
 runsW_both k [21,0,0,4,9,0,2,2,2,2,2,2,199,2,12,16,20,3,24,3,28,3,32,3,36,3,40,3,44,3,48,3,52,3,56,3,60,3,64,3,68,3,73,3,76,3,80,199,3,3] (fun _ => [0]) _ _ _ _ (fun _ _ => by kernel_rfl) (fun _ => by decide) hc ⟨rfl, rfl, rfl⟩
theorem step_above (c : Cfg) (mb wb nt : Nat) (tb : Nat → Nat) (wd wk k : Nat) (id : Int) (capw : Nat) (evs : Value) (e : WE) (hc : all [(decide (id ≥ 0)) = true, (!decide (id < (nt : Int))) = true]) : RunsW c mb wb nt tb 35 #[pt wd, vi id] [wdB wd mb (.slice (some ⟨wk, 0, none⟩) nt capw) evs] e fun v hp' e' => v = .bool false ∧ hp' = [wdB wd mb (.slice (some ⟨wk, 0, none⟩) nt capw) evs] ∧ e' = e :=
 runsW_both k [21,0,0,4,9,1,3,3,3,3,0,3,3,199,3,12,16,20,1,24,3,28,3,32,3,36,3,40,3,44,3,48,3,52,3,56,3,60,3,64,3,68,3,73,3,76,3,80,199,3,3] (fun _ => [0]) _ _ _ _ (fun _ _ => by kernel_rfl) (fun _ => by decide) hc ⟨rfl, rfl, rfl⟩
theorem step_rests (c : Cfg) (mb wb nt : Nat) (tb : Nat → Nat) (wd wk k : Nat) (id : Int) (capw : Nat) (preW postW : Array Value) (ei : Int) (evs : Value) (e : WE) (hc : all [(decide (id ≥ 0)) = true, (!decide (id < (nt : Int))) = false, (0 : Int) ≤ id, id < (nt : Int), id.toNat * 2 = preW.size, k < nt, (e.th k).isIdle = true]) : RunsW c mb wb nt tb 35 #[pt wd, vi id] [wdB wd mb (.slice (some ⟨wk, 0, none⟩) nt capw) evs, wkB wk preW (tb k) ei postW] e fun v hp' e' => v = .bool false ∧ hp' = [wdB wd mb (.slice (some ⟨wk, 0, none⟩) nt capw) evs, wkB wk preW (tb k) ei postW] ∧ e' = e :=
 runsW_both k [21,0,0,4,9,1,3,3,3,3,0,3,3,199,3,12,16,20,0,24,2,28,2,32,2,0,36,2,40,2,199,44,2,48,2,1,0,52,2,56,2,60,2,64,2,68,2,0,73,2,1,76,2,80,199,2,3] (fun _ => [0,1]) _ _ _ _ (fun _ _ => by kernel_rfl) (fun _ => by decide) hc ⟨rfl, rfl, rfl⟩
end Go.Proofs.YtfinmiakbpmjiaaGreat.Um
