/-
  Each step and each start of a thread.
-/
import Derived.Test.YtfinmiakbpmjiaaGreatUmE
import Derived.Test.YtfinmiakbpmjiaaGreatUmF
import Derived.Test.YtfinmiakbpmjiaaGreatUmG
import Derived.Test.YtfinmiakbpmjiaaGreatUmH
import Derived.Test.YtfinmiakbpmjiaaGreatSoG
set_option linter.unusedSimpArgs false
set_option linter.unusedVariables false
namespace Go.Proofs.YtfinmiakbpmjiaaGreat.Um
open Go Go.RowKit Go.Proofs.YtfinmiakbpmjiaaGreat Go.Proofs.YtfinmiakbpmjiaaGreat.Ax
def Mach.isDone : Mach → Bool
 | .done _ _ => true
 | _ => false
theorem WS.wsf {c : Cfg} {mb wb t id d : Nat} {vp a1 a2 a3 : Value} {M : Mm} {cnt : Nat} {m : Mach} {X : List Blk} (h : WS c mb wb t id d vp a1 a2 a3 M cnt m X) : ∃ X0 X1, X = X0 ++ X1 ∧ WSF c mb wb t id d vp a1 a2 a3 M cnt m X0 X1 := by
 refine ⟨X, [], (List.append_nil _).symm, ?_⟩
 refine Steps1.mono h ?_
 rintro hp' M' ⟨⟨B, h1, h2⟩, h3⟩
 exact ⟨⟨B, by rw [List.append_nil]; exact h1, h2⟩, h3⟩
theorem work_step {c : Cfg} {mb wb t id d : Nat} {vp a1 a2 a3 : Value} {M : Mm} {cnt : Nat} {m : Mach} {X : List Blk} (hr : c.right) (hM : MemOK c M) (hn : cnt < 1000000000) (hid : (id : Int) < c.T) (hm : mOK c id m) (hX : MForm c id d m X) (hd : m.isDone = false) :
  ∃ X0 X1, X = X0 ++ X1 ∧ WSF c mb wb t id d vp a1 a2 a3 M cnt m X0 X1 := by
 cases m with
 | oLook i =>
  exact (w_oLook hr hM hn hid hm hX).wsf
 | oTake i s =>
  exact (w_oTake hr hM hn hid hm hX).wsf
 | oTally i s =>
  exact (w_oTally hr hM hn hid hm hX).wsf
 | oNote i s q =>
  exact (w_oNote hr hM hn hid hm hX).wsf
 | oStart i s q =>
  exact (w_oStart hr hM hn hid hm hX).wsf
 | oHelp i s w p =>
  cases p
  ·exact (w_oHelp_number hr hM hn hid hm hX).wsf
  ·exact (w_oHelp_look hr hM hn hid hm hX).wsf
  ·exact (w_oHelp_lay hr hM hn hid hm hX).wsf
  ·exact (w_oHelp_settle hr hM hn hid hm hX).wsf
 | rEnter h k p =>
  cases p
  ·exact (w_rEnter_look hr hM hn hid hm hX).wsf
  ·exact (w_rEnter_swap hr hM hn hid hm hX).wsf
 | rSnap h k =>
  exact (w_rSnap hr hM hn hid hm hX).wsf
 | rLook h k n =>
  exact (w_rLook hr hM hn hid hm hX).wsf
 | rMark h k n w =>
  exact (w_rMark hr hM hn hid hm hX).wsf
 | rJoin h k n j r p =>
  cases p
  ·exact (w_rJoin_look hr hM hn hid hm hX).wsf
  ·exact (w_rJoin_number hr hM hn hid hm hX).wsf
  ·exact (w_rJoin_lay hr hM hn hid hm hX).wsf
 | rOwn h k n j r p =>
  cases p
  ·exact (w_rOwn_look hr hM hn hid hm hX).wsf
  ·exact (w_rOwn_swap hr hM hn hid hm hX).wsf
 | rLeave h k ab p e =>
  cases ab <;> cases p
  ·exact (w_rLeave_stay_look hr hM hn hid hm hX).wsf
  ·exact (w_rLeave_stay_swap hr hM hn hid hm hX).wsf
  ·exact (w_rLeave_abort_look hr hM hn hid hm hX).wsf
  ·exact (w_rLeave_abort_swap hr hM hn hid hm hX).wsf
 | wEnter h k p =>
  cases p
  ·exact (w_wEnter_look hr hM hn hid hm hX).wsf
  ·exact (w_wEnter_swap hr hM hn hid hm hX).wsf
 | wSnap h k =>
  exact (w_wSnap hr hM hn hid hm hX).wsf
 | wLook h k n =>
  exact (w_wLook hr hM hn hid hm hX).wsf
 | wRival h k n w j r =>
  exact (w_wRival hr hM hn hid hm hX).wsf
 | wNumber h k n w j r =>
  exact (w_wNumber hr hM hn hid hm hX).wsf
 | wMark h k n w =>
  exact (w_wMark hr hM hn hid hm hX).wsf
 | wJoin h k n j r p =>
  cases p
  ·exact (w_wJoin_look hr hM hn hid hm hX).wsf
  ·exact (w_wJoin_number hr hM hn hid hm hX).wsf
  ·exact (w_wJoin_lay hr hM hn hid hm hX).wsf
 | wOwn h k n j r p =>
  cases p
  ·exact (w_wOwn_look hr hM hn hid hm hX).wsf
  ·exact (w_wOwn_swap hr hM hn hid hm hX).wsf
 | wLeave h k ab p e =>
  cases ab <;> cases p
  ·exact (w_wLeave_stay_look hr hM hn hid hm hX).wsf
  ·exact (w_wLeave_stay_swap hr hM hn hid hm hX).wsf
  ·exact (w_wLeave_abort_look hr hM hn hid hm hX).wsf
  ·exact (w_wLeave_abort_swap hr hM hn hid hm hX).wsf
 | cEnter h p =>
  cases p
  ·exact (w_cEnter_look hr hM hn hid hm hX).wsf
  ·exact (w_cEnter_swap hr hM hn hid hm hX).wsf
 | cJudge h =>
  exact (w_cJudge hr hM hn hid hm hX).wsf
 | cDoom h s =>
  exact (w_cDoom hr hM hn hid hm hX).wsf
 | cPromise h s =>
  exact (w_cPromise hr hM hn hid hm hX).wsf
 | cCount h =>
  exact (w_cCount hr hM hn hid hm hX).wsf
 | cNumber h w =>
  exact (w_cNumber hr hM hn hid hm hX).wsf
 | cHelp h w p =>
  cases p
  ·exact (w_cHelp_number hr hM hn hid hm hX).wsf
  ·exact (w_cHelp_look hr hM hn hid hm hX).wsf
  ·exact (w_cHelp_lay hr hM hn hid hm hX).wsf
  ·exact (w_cHelp_settle hr hM hn hid hm hX).wsf
 | cNote h w hw p =>
  cases p
  ·exact (w_cNote_number hr hM hn hid hm hX).wsf
  ·exact (w_cNote_look hr hM hn hid hm hX).wsf
  ·exact (w_cNote_lay hr hM hn hid hm hX).wsf
  ·exact (w_cNote_settle hr hM hn hid hm hX).wsf
 | cLeave h ab p a =>
  cases ab <;> cases p
  ·exact (w_cLeave_stay_look hr hM hn hid hm hX).wsf
  ·exact (w_cLeave_stay_swap hr hM hn hid hm hX).wsf
  ·exact (w_cLeave_abort_look hr hM hn hid hm hX).wsf
  ·exact (w_cLeave_abort_swap hr hM hn hid hm hX).wsf
 | aEnter h p =>
  cases p with
  | look => exact (w_aEnter_look hr hM hn hid hm hX)
  | swap s => exact (w_aEnter_swap hr hM hn hid hm hX)
 | aThen h =>
  exact (w_aThen hr hM hn hid hm hX).wsf
 | aLeave h p =>
  cases p
  ·exact (w_aLeave_abort_look hr hM hn hid hm hX).wsf
  ·exact (w_aLeave_abort_swap hr hM hn hid hm hX).wsf
 | sEnter h p =>
  cases p
  ·exact (w_sEnter_look hr hM hn hid hm hX).wsf
  ·exact (w_sEnter_swap hr hM hn hid hm hX).wsf
 | sNumber h =>
  exact (w_sNumber hr hM hn hid hm hX).wsf
 | sAged h j num sn =>
  cases sn
  ·exact (w_sAged_look hr hM hn hid hm hX).wsf
  ·exact (w_sAged_snap hr hM hn hid hm hX).wsf
 | sDie h =>
  exact (w_sDie hr hM hn hid hm hX).wsf
 | sDead h w =>
  exact (w_sDead hr hM hn hid hm hX).wsf
 | sTick h cl =>
  exact (w_sTick hr hM hn hid hm hX).wsf
 | sNote h cl r =>
  exact (w_sNote hr hM hn hid hm hX).wsf
 | sRetired h cl =>
  exact (w_sRetired hr hM hn hid hm hX).wsf
 | sGrace h cl j r =>
  exact (w_sGrace hr hM hn hid hm hX).wsf
 | sKeys h k =>
  exact (w_sKeys hr hM hn hid hm hX).wsf
 | sUnmark h k w =>
  exact (w_sUnmark hr hM hn hid hm hX).wsf
 | sPast h =>
  exact (w_sPast hr hM hn hid hm hX).wsf
 | sOthers h j n =>
  exact (w_sOthers hr hM hn hid hm hX).wsf
 | sPart h j n w =>
  exact (w_sPart hr hM hn hid hm hX).wsf
 | sClose h =>
  exact (w_sClose hr hM hn hid hm hX).wsf
 | sClosed h w =>
  exact (w_sClosed hr hM hn hid hm hX).wsf
 | sNought h =>
  exact (w_sNought hr hM hn hid hm hX).wsf
 | sFree h =>
  exact (w_sFree hr hM hn hid hm hX).wsf
 | sLater h p =>
  cases p
  ·exact (w_sLater_stay_look hr hM hn hid hm hX).wsf
  ·exact (w_sLater_stay_swap hr hM hn hid hm hX).wsf
 | done kd a => cases hd
theorem has_sub {w : World} {l l' : List Blk} (h : Has w l') (k : List.Sublist l l') : Has w l := ⟨h.nd.sublist (k.map _), fun x hx => h.each x (k.subset hx)⟩
theorem has_perm {w : World} {l l' : List Blk} (h : Has w l') (k : l.Perm l') : Has w l := ⟨(k.map _).nodup_iff.2 h.nd, fun x hx => h.each x (k.subset hx)⟩
def CallW (c : Cfg) (mb wb : Nat) (f : FuncId) (args : Array Value) (w : World) (B : List Blk) (n : Nat) (R : Value → List Blk → Mm → Prop) : Prop :=
 Calls Tryz.prog f args w fun e w' => ∃ v B' M', e = .returned v ∧ R v B' M' ∧ Has w' B' ∧ MemAt w' mb wb c M' n ∧ Only (B.map (·.b) ++ [mb, wb]) w w' ∧ ∀ x ∈ B', x.b ≠ mb ∧ x.b ≠ wb ∧ (x.b ∈ B.map (·.b) ∨ w.heap.size ≤ x.b)
theorem callW_of {c : Cfg} {mb wb : Nat} {f : FuncId} {args : Array Value} {hp X : List Blk} {M : Mm} {n k : Nat} {R : Value → List Blk → Mm → Prop} {w : World} (h : RunsF c mb wb f args hp M n k R) (hw : Has w (hp ++ X)) (hm : MemAt w mb wb c M n) (hd : ∀ x ∈ hp ++ X, x.b ≠ mb ∧ x.b ≠ wb) :
  CallW c mb wb f args w (hp ++ X) (n + k) fun v B' M' => ∃ hp', R v hp' M' ∧ B' = hp' ++ X := by
 have hsz : mb < w.heap.size ∧ wb < w.heap.size := by
  obtain ⟨a, b, d, o, m, e, hb⟩ := hm.box
  obtain ⟨ws, hb2, _⟩ := hm.row
  exact ⟨blk_lt hb, blk_lt hb2⟩
 have hr : Rel0 (sideM c mb wb) (hp.map (·.b) ++ [mb, wb]) w ⟨hp, ⟨M, n⟩, []⟩ w := by
  refine ⟨has_sub hw (List.sublist_append_left _ _), ⟨[mb, wb], ⟨rfl, hm⟩, fun x hx => ?_, fun b hb => ?_⟩, .of (Below.refl _ _), fun x hx => Or.inl (List.mem_append.2 (Or.inl (List.mem_map.2 ⟨x, hx, rfl⟩))), List.nil_prefix, by simp, by simp⟩
  ·have := hd x (List.mem_append.2 (Or.inl hx))
   simp only [List.mem_cons, List.not_mem_nil, or_false, not_or]
   exact this
  ·simp only [List.mem_cons, List.not_mem_nil, or_false] at hb
   rcases hb with rfl | rfl
   ·exact ⟨hsz.1, by simp⟩
   ·exact ⟨hsz.2, by simp⟩
 refine (h _ _ _ hr).mono ?_
 rintro e w' ⟨v, hp', M', rfl, hR, hr'⟩
 obtain ⟨F, hfo⟩ := hr'.side
 obtain ⟨hF, hmm⟩ := hfo.inv
 subst hF
 have hmw : ∀ x ∈ X, x.b < w.heap.size ∧ x.b ≠ mb ∧ x.b ≠ wb ∧ x.b ∉ hp.map (·.b) := by
  intro x hx
  have h1 := hd x (List.mem_append.2 (Or.inr hx))
  refine ⟨holds_lt (hw.each x (List.mem_append.2 (Or.inr hx))), h1.1, h1.2, ?_⟩
  have h2 := hw.nd
  rw [List.map_append, List.nodup_append] at h2
  intro h3
  exact h2.2.2 _ h3 _ (List.mem_map.2 ⟨x, hx, rfl⟩) rfl
 have hown : ∀ x ∈ hp', x.b ≠ mb ∧ x.b ≠ wb ∧ (x.b ∈ hp.map (·.b) ∨ w.heap.size ≤ x.b) := by
  intro x hx
  have h1 := hfo.apart x hx
  simp only [List.mem_cons, List.not_mem_nil, or_false, not_or] at h1
  refine ⟨h1.1, h1.2, ?_⟩
  rcases hr'.own x hx with h2 | h2
  ·rcases List.mem_append.1 h2 with h3 | h3
   ·exact Or.inl h3
   ·simp at h3
    rcases h3 with h3 | h3
    ·exact (h1.1 h3).elim
    ·exact (h1.2 h3).elim
  ·exact Or.inr h2
 refine ⟨v, hp' ++ X, M', rfl, ⟨hp', hR, rfl⟩, ⟨?_, ?_⟩, hmm, hr'.only.wide ?_, ?_⟩
 ·rw [List.map_append, List.nodup_append]
  have h2 := hw.nd
  rw [List.map_append, List.nodup_append] at h2
  refine ⟨hr'.has.nd, h2.2.1, ?_⟩
  intro a ha b hb hab
  obtain ⟨x, hx, rfl⟩ := List.mem_map.1 ha
  obtain ⟨y, hy, rfl⟩ := List.mem_map.1 hb
  have h3 := hown x hx
  have h4 := hmw y hy
  rcases h3.2.2 with h5 | h5
  ·exact h4.2.2.2 (hab ▸ h5)
  ·omega
 ·intro x hx
  rcases List.mem_append.1 hx with h1 | h1
  ·exact hr'.has.each x h1
  ·have h4 := hmw x h1
   refine holds_only (hw.each x (List.mem_append.2 (Or.inr h1))) hr'.only ?_
   intro h5
   rcases List.mem_append.1 h5 with h6 | h6
   ·exact h4.2.2.2 h6
   ·simp at h6
    rcases h6 with h6 | h6
    ·exact h4.2.1 h6
    ·exact h4.2.2.1 h6
 ·intro x hx
  rcases List.mem_append.1 hx with h1 | h1
  ·rw [List.map_append]; simp only [List.mem_append]; exact Or.inl (Or.inl h1)
  ·simp only [List.mem_append]; exact Or.inr h1
 ·intro x hx
  rcases List.mem_append.1 hx with h1 | h1
  ·have h2 := hown x h1
   refine ⟨h2.1, h2.2.1, ?_⟩
   rcases h2.2.2 with h3 | h3
   ·rw [List.map_append]; exact Or.inl (List.mem_append.2 (Or.inl h3))
   ·exact Or.inr h3
  ·have h4 := hmw x h1
   exact ⟨h4.2.1, h4.2.2.1, Or.inl (by rw [List.map_append]; exact List.mem_append.2 (Or.inr (List.mem_map.2 ⟨x, h1, rfl⟩)))⟩
theorem Steps1.runs {c : Cfg} {mb wb t : Nat} {hp : List Blk} {M : Mm} {n : Nat} {R : List Blk → Mm → Prop} (h : Steps1 c mb wb t hp M n R) : RunsF c mb wb 60 #[pt t, pt mb] hp M n 1 fun v hp' M' => v = .bool true ∧ R hp' M' := by
 intro L w0 w hr
 refine (h L w0 w hr).mono ?_
 rintro e w' ⟨rfl, hp', M', h1, h2⟩
 exact ⟨_, hp', M', rfl, ⟨rfl, h1⟩, h2⟩
theorem CallW.mono {c : Cfg} {mb wb : Nat} {f : FuncId} {args : Array Value} {w : World} {B : List Blk} {n : Nat} {R R' : Value → List Blk → Mm → Prop} (h : CallW c mb wb f args w B n R) (hR : ∀ v B' M', R v B' M' → ∃ B2, List.Sublist B2 B' ∧ R' v B2 M') : CallW c mb wb f args w B n R' := by
 refine Calls.mono h ?_
 rintro e w' ⟨v, B', M', rfl, h1, h2, h3, h4, h5⟩
 obtain ⟨B2, h6, h7⟩ := hR _ _ _ h1
 exact ⟨v, B2, M', rfl, h7, has_sub h2 h6, h3, h4, fun x hx => h5 x (h6.subset hx)⟩
def tOK (c : Cfg) (id : Nat) : TSt → Prop
 | .idle _ => True
 | .pinLoad m => mOK c id m
 | .pinLay e m => e < 18446744073709551616 ∧ mOK c id m
 | .work m => mOK c id m ∧ m.isDone = false
 | .leave _ _ => True
def TSt.isIdle : TSt → Bool
 | .idle _ => true
 | _ => false
theorem first_o {c : Cfg} {id d : Nat} {m : Mach} {X : List Blk} (hX : MForm c id d m X) (hd : m.isDone = false) (hk : m.kd = .o) : ∃ (fk : Fn) (fa fc : Array Value) (nx s q aid : Value) (slot e : Int) (h n : Nat) (Y : List Blk), X = openB d (.func fk fa fc) nx slot s q aid e h n :: Y := by
 cases m with
 | oLook _ => obtain ⟨_, _, _, _, rfl⟩ := hX; exact ⟨_, _, _, _, _, _, _, _, _, _, _, _, rfl⟩
 | oTake _ _ => obtain ⟨_, _, _, rfl⟩ := hX; exact ⟨_, _, _, _, _, _, _, _, _, _, _, _, rfl⟩
 | oTally _ _ => obtain ⟨_, _, _, rfl⟩ := hX; exact ⟨_, _, _, _, _, _, _, _, _, _, _, _, rfl⟩
 | oNote _ _ _ => obtain ⟨_, _, rfl⟩ := hX; exact ⟨_, _, _, _, _, _, _, _, _, _, _, _, rfl⟩
 | oStart _ _ _ => obtain ⟨_, _, rfl⟩ := hX; exact ⟨_, _, _, _, _, _, _, _, _, _, _, _, rfl⟩
 | oHelp _ _ _ _ => obtain ⟨_, _, _, _, _, rfl, _⟩ := hX; exact ⟨_, _, _, _, _, _, _, _, _, _, _, _, rfl⟩
 | _ => first | (cases hk; done) | (cases hd; done)
theorem first_r {c : Cfg} {id d : Nat} {m : Mach} {X : List Blk} (hX : MForm c id d m X) (hd : m.isDone = false) (hk : m.kd = .r) : ∃ (fk : Fn) (fa fc : Array Value) (n w en nx ot jo ow le : Value) (key slot no : Int) (Y : List Blk), X = readB d (.func fk fa fc) key slot n w en nx ot jo ow le no :: Y := by
 cases m with
 | rEnter _ _ _ => obtain ⟨_, _, _, _, _, _, _, _, _, _, _, _, rfl, _⟩ := hX; exact ⟨_, _, _, _, _, _, _, _, _, _, _, _, _, _, _, rfl⟩
 | rSnap _ _ => obtain ⟨_, _, _, _, _, _, _, _, rfl⟩ := hX; exact ⟨_, _, _, _, _, _, _, _, _, _, _, _, _, _, _, rfl⟩
 | rLook _ _ _ => obtain ⟨_, _, _, _, _, _, _, rfl⟩ := hX; exact ⟨_, _, _, _, _, _, _, _, _, _, _, _, _, _, _, rfl⟩
 | rMark _ _ _ _ => obtain ⟨_, _, _, _, _, _, rfl⟩ := hX; exact ⟨_, _, _, _, _, _, _, _, _, _, _, _, _, _, _, rfl⟩
 | rJoin _ _ _ _ _ _ => obtain ⟨_, _, _, _, _, _, _, _, _, _, _, _, _, rfl, _, _⟩ := hX; exact ⟨_, _, _, _, _, _, _, _, _, _, _, _, _, _, _, rfl⟩
 | rOwn _ _ _ _ _ _ => obtain ⟨_, _, _, _, _, _, _, _, _, _, _, _, _, rfl, _, _⟩ := hX; exact ⟨_, _, _, _, _, _, _, _, _, _, _, _, _, _, _, rfl⟩
 | rLeave _ _ _ _ _ => obtain ⟨_, _, _, _, _, _, _, _, _, _, _, _, rfl, _⟩ := hX; exact ⟨_, _, _, _, _, _, _, _, _, _, _, _, _, _, _, rfl⟩
 | _ => first | (cases hk; done) | (cases hd; done)
theorem first_w {c : Cfg} {id d : Nat} {m : Mach} {X : List Blk} (hX : MForm c id d m X) (hd : m.isDone = false) (hk : m.kd = .w) : ∃ (fk : Fn) (fa fc : Array Value) (n w en nx ot jo ow le : Value) (key slot no : Int) (Y : List Blk), X = writeB d (.func fk fa fc) key slot n w en nx ot jo ow le no :: Y := by
 cases m with
 | wEnter _ _ _ => obtain ⟨_, _, _, _, _, _, _, _, _, _, _, _, rfl, _⟩ := hX; exact ⟨_, _, _, _, _, _, _, _, _, _, _, _, _, _, _, rfl⟩
 | wSnap _ _ => obtain ⟨_, _, _, _, _, _, _, _, rfl⟩ := hX; exact ⟨_, _, _, _, _, _, _, _, _, _, _, _, _, _, _, rfl⟩
 | wLook _ _ _ => obtain ⟨_, _, _, _, _, _, _, rfl⟩ := hX; exact ⟨_, _, _, _, _, _, _, _, _, _, _, _, _, _, _, rfl⟩
 | wRival _ _ _ _ _ _ => obtain ⟨_, _, _, _, _, _, _, _, _, _, rfl, _⟩ := hX; exact ⟨_, _, _, _, _, _, _, _, _, _, _, _, _, _, _, rfl⟩
 | wNumber _ _ _ _ _ _ => obtain ⟨_, _, _, _, _, _, _, _, _, _, rfl, _⟩ := hX; exact ⟨_, _, _, _, _, _, _, _, _, _, _, _, _, _, _, rfl⟩
 | wMark _ _ _ _ => obtain ⟨_, _, _, _, _, _, rfl⟩ := hX; exact ⟨_, _, _, _, _, _, _, _, _, _, _, _, _, _, _, rfl⟩
 | wJoin _ _ _ _ _ _ => obtain ⟨_, _, _, _, _, _, _, _, _, _, _, _, _, rfl, _, _⟩ := hX; exact ⟨_, _, _, _, _, _, _, _, _, _, _, _, _, _, _, rfl⟩
 | wOwn _ _ _ _ _ _ => obtain ⟨_, _, _, _, _, _, _, _, _, _, _, _, _, rfl, _, _⟩ := hX; exact ⟨_, _, _, _, _, _, _, _, _, _, _, _, _, _, _, rfl⟩
 | wLeave _ _ _ _ _ => obtain ⟨_, _, _, _, _, _, _, _, _, _, _, _, rfl, _⟩ := hX; exact ⟨_, _, _, _, _, _, _, _, _, _, _, _, _, _, _, rfl⟩
 | _ => first | (cases hk; done) | (cases hd; done)
theorem first_c {c : Cfg} {id d : Nat} {m : Mach} {X : List Blk} (hX : MForm c id d m X) (hd : m.isDone = false) (hk : m.kd = .c) : ∃ (fk : Fn) (fa fc : Array Value) (en le s w aid : Value) (slot e : Int) (h n : Nat) (Y : List Blk), X = commitB d (.func fk fa fc) slot en le e h n s w aid :: Y := by
 cases m with
 | cEnter _ _ => obtain ⟨_, _, _, _, _, _, _, _, _, _, _, rfl, _⟩ := hX; exact ⟨_, _, _, _, _, _, _, _, _, _, _, _, _, rfl⟩
 | cJudge _ => obtain ⟨_, _, _, _, _, rfl⟩ := hX; exact ⟨_, _, _, _, _, _, _, _, _, _, _, _, _, rfl⟩
 | cDoom _ _ => obtain ⟨_, _, _, _, rfl⟩ := hX; exact ⟨_, _, _, _, _, _, _, _, _, _, _, _, _, rfl⟩
 | cPromise _ _ => obtain ⟨_, _, _, _, rfl⟩ := hX; exact ⟨_, _, _, _, _, _, _, _, _, _, _, _, _, rfl⟩
 | cCount _ => obtain ⟨_, _, _, _, _, rfl⟩ := hX; exact ⟨_, _, _, _, _, _, _, _, _, _, _, _, _, rfl⟩
 | cNumber _ _ => obtain ⟨_, _, _, _, rfl⟩ := hX; exact ⟨_, _, _, _, _, _, _, _, _, _, _, _, _, rfl⟩
 | cHelp _ _ _ => obtain ⟨_, _, _, _, _, _, _, rfl, _⟩ := hX; exact ⟨_, _, _, _, _, _, _, _, _, _, _, _, _, rfl⟩
 | cNote _ _ _ _ => obtain ⟨_, _, _, _, _, _, rfl, _⟩ := hX; exact ⟨_, _, _, _, _, _, _, _, _, _, _, _, _, rfl⟩
 | cLeave _ _ _ _ => obtain ⟨_, _, _, _, _, _, _, _, _, rfl, _⟩ := hX; exact ⟨_, _, _, _, _, _, _, _, _, _, _, _, _, rfl⟩
 | _ => first | (cases hk; done) | (cases hd; done)
theorem first_a {c : Cfg} {id d : Nat} {m : Mach} {X : List Blk} (hX : MForm c id d m X) (hd : m.isDone = false) (hk : m.kd = .a) : ∃ (fk : Fn) (fa fc : Array Value) (en le : Value) (slot e : Int) (h n : Nat) (Y : List Blk), X = abortB d (.func fk fa fc) slot en le e h n :: Y := by
 cases m with
 | aEnter _ _ => obtain ⟨_, _, _, _, _, _, _, _, _, rfl, _⟩ := hX; exact ⟨_, _, _, _, _, _, _, _, _, _, rfl⟩
 | aThen _ => obtain ⟨_, _, _, rfl⟩ := hX; exact ⟨_, _, _, _, _, _, _, _, _, _, rfl⟩
 | aLeave _ _ => obtain ⟨_, _, _, _, _, _, rfl, _⟩ := hX; exact ⟨_, _, _, _, _, _, _, _, _, _, rfl⟩
 | _ => first | (cases hk; done) | (cases hd; done)
theorem first_s {c : Cfg} {id d : Nat} {m : Mach} {X : List Blk} (hX : MForm c id d m X) (hd : m.isDone = false) (hk : m.kd = .s) : ∃ (fk : Fn) (fa fc : Array Value) (nx at' w r n en ag wa le : Value) (thread slot gen no : Int) (cl : Bool) (Y : List Blk), X = sweepB c d (.func fk fa fc) nx thread slot gen at' cl w r n en ag wa le no :: Y := by
 cases m with
 | sEnter _ _ => obtain ⟨_, _, _, _, _, _, _, _, _, _, _, _, _, rfl, _⟩ := hX; exact ⟨_, _, _, _, _, _, _, _, _, _, _, _, _, _, _, _, _, _, rfl⟩
 | sNumber _ => obtain ⟨_, _, _, _, _, _, _, _, _, rfl⟩ := hX; exact ⟨_, _, _, _, _, _, _, _, _, _, _, _, _, _, _, _, _, _, rfl⟩
 | sAged _ _ _ _ => obtain ⟨_, _, _, _, _, _, _, _, _, _, _, _, _, rfl, _⟩ := hX; exact ⟨_, _, _, _, _, _, _, _, _, _, _, _, _, _, _, _, _, _, rfl⟩
 | sDie _ => obtain ⟨_, _, _, _, _, _, _, _, _, rfl⟩ := hX; exact ⟨_, _, _, _, _, _, _, _, _, _, _, _, _, _, _, _, _, _, rfl⟩
 | sDead _ _ => obtain ⟨_, _, _, _, _, _, _, _, rfl⟩ := hX; exact ⟨_, _, _, _, _, _, _, _, _, _, _, _, _, _, _, _, _, _, rfl⟩
 | sTick _ _ => obtain ⟨_, _, _, _, _, _, _, _, _, rfl⟩ := hX; exact ⟨_, _, _, _, _, _, _, _, _, _, _, _, _, _, _, _, _, _, rfl⟩
 | sNote _ _ _ => obtain ⟨_, _, _, _, _, _, _, _, rfl⟩ := hX; exact ⟨_, _, _, _, _, _, _, _, _, _, _, _, _, _, _, _, _, _, rfl⟩
 | sRetired _ _ => obtain ⟨_, _, _, _, _, _, _, _, _, rfl⟩ := hX; exact ⟨_, _, _, _, _, _, _, _, _, _, _, _, _, _, _, _, _, _, rfl⟩
 | sGrace _ _ _ _ => obtain ⟨_, _, _, _, _, _, _, _, _, rfl⟩ := hX; exact ⟨_, _, _, _, _, _, _, _, _, _, _, _, _, _, _, _, _, _, rfl⟩
 | sKeys _ _ => obtain ⟨_, _, _, _, _, _, _, _, _, _, rfl⟩ := hX; exact ⟨_, _, _, _, _, _, _, _, _, _, _, _, _, _, _, _, _, _, rfl⟩
 | sUnmark _ _ _ => obtain ⟨_, _, _, _, _, _, _, _, _, rfl⟩ := hX; exact ⟨_, _, _, _, _, _, _, _, _, _, _, _, _, _, _, _, _, _, rfl⟩
 | sPast _ => obtain ⟨_, _, _, _, _, _, _, _, _, rfl⟩ := hX; exact ⟨_, _, _, _, _, _, _, _, _, _, _, _, _, _, _, _, _, _, rfl⟩
 | sOthers _ _ _ => obtain ⟨_, _, _, _, _, _, _, _, _, rfl⟩ := hX; exact ⟨_, _, _, _, _, _, _, _, _, _, _, _, _, _, _, _, _, _, rfl⟩
 | sPart _ _ _ _ => obtain ⟨_, _, _, _, _, _, _, _, rfl⟩ := hX; exact ⟨_, _, _, _, _, _, _, _, _, _, _, _, _, _, _, _, _, _, rfl⟩
 | sClose _ => obtain ⟨_, _, _, _, _, _, _, _, _, rfl⟩ := hX; exact ⟨_, _, _, _, _, _, _, _, _, _, _, _, _, _, _, _, _, _, rfl⟩
 | sClosed _ _ => obtain ⟨_, _, _, _, _, _, _, _, rfl⟩ := hX; exact ⟨_, _, _, _, _, _, _, _, _, _, _, _, _, _, _, _, _, _, rfl⟩
 | sNought _ => obtain ⟨_, _, _, _, _, _, _, _, _, _, rfl⟩ := hX; exact ⟨_, _, _, _, _, _, _, _, _, _, _, _, _, _, _, _, _, _, rfl⟩
 | sFree _ => obtain ⟨_, _, _, _, _, _, _, _, _, _, rfl⟩ := hX; exact ⟨_, _, _, _, _, _, _, _, _, _, _, _, _, _, _, _, _, _, rfl⟩
 | sLater _ _ => obtain ⟨_, _, _, _, _, _, _, _, _, _, _, _, _, rfl, _⟩ := hX; exact ⟨_, _, _, _, _, _, _, _, _, _, _, _, _, _, _, _, _, _, rfl⟩
 | _ => first | (cases hk; done) | (cases hd; done)
theorem goesOn_work {m : Mach} (h : m.isDone = false) : goesOn m = .work m := by
 cases m <;> first | rfl | cases h
theorem tstep_ok {c : Cfg} {mb wb t id : Nat} {M : Mm} {cnt : Nat} {st : TSt} {B : List Blk} {w : World} (hr : c.right) (hM : MemOK c M) (hn : cnt < 1000000000) (hid : (id : Int) < c.T) (hm : tOK c id st) (hB : TForm c t id st B) (hi : st.isIdle = false) (hw : Has w B) (hmem : MemAt w mb wb c M cnt) (hd : ∀ x ∈ B, x.b ≠ mb ∧ x.b ≠ wb) :
  CallW c mb wb 60 #[pt t, pt mb] w B (cnt + 1) fun v B' M' => v = .bool true ∧ TForm c t id (tstep c id M st).2 B' ∧ M' = upd M (tstep c id M st).1.1 (tstep c id M st).1.2 := by
 cases st with
 | idle a => cases hi
 | pinLoad m =>
  obtain ⟨pb, pe, d, a1, a2, a3, X, rfl, hX⟩ := hB
  refine (callW_of (hp := [_, _]) (X := X) (Steps1.runs (zdZ ⟨rfl, trivial, hn, trivial⟩)) hw hmem hd).mono ?_
  rintro v B' M' ⟨hp', ⟨rfl, gs, rfl, rfl⟩, rfl⟩
  exact ⟨_, List.Sublist.refl _, rfl, ⟨_, _, _, _, _, _, rfl, hX⟩, rfl⟩
 | pinLay pe m =>
  obtain ⟨pb, d, a1, a2, a3, X, rfl, hX⟩ := hB
  obtain ⟨m1, m2⟩ := hm
  have wp : (IntKind.u64.wrap ((pe : Int) + 1)).toNat = (pe + 1) % 18446744073709551616 := by
   simp [IntKind.wrap, IntKind.signed, IntKind.bits]
   omega
  have hsp : Spot.ok c (.pin id) := hid
  cases hdn : m.isDone
  ·have hg := goesOn_work hdn
   cases hk : m.kd
   ·obtain ⟨fk, fa, fc, x0, x1, x2, x3, x4, x5, x6, x7, Y, rfl⟩ := first_o hX hdn hk
    try rw [hk] at hw
    try rw [hk] at hd
    try rw [hk]
    refine (callW_of (hp := [_, _, _]) (X := Y) (Steps1.runs (ze0 ⟨rfl, hsp, hn, (Int.natCast_nonneg _), trivial⟩)) hw hmem hd).mono ?_
    rintro v B' M' ⟨hp', ⟨rfl, gs, rfl, rfl⟩, rfl⟩
    refine ⟨_, List.Sublist.cons_cons _ (List.sublist_cons_self _ _), rfl, ?_, by rw [wp]; rfl⟩
    show TForm c t id (goesOn m) _
    rw [hg]
    simp only [TForm, hk, Kd.ty]
    refine ⟨_, _, _, _, _, _, rfl, ?_⟩
    ·exact hX
   ·obtain ⟨fk, fa, fc, x0, x1, x2, x3, x4, x5, x6, x7, x8, x9, x10, Y, rfl⟩ := first_r hX hdn hk
    try rw [hk] at hw
    try rw [hk] at hd
    try rw [hk]
    refine (callW_of (hp := [_, _, _]) (X := Y) (Steps1.runs (ze3 ⟨rfl, hsp, hn, (Int.natCast_nonneg _), trivial⟩)) hw hmem hd).mono ?_
    rintro v B' M' ⟨hp', ⟨rfl, gs, rfl, rfl⟩, rfl⟩
    refine ⟨_, List.Sublist.cons_cons _ (List.sublist_cons_self _ _), rfl, ?_, by rw [wp]; rfl⟩
    show TForm c t id (goesOn m) _
    rw [hg]
    simp only [TForm, hk, Kd.ty]
    refine ⟨_, _, _, _, _, _, rfl, ?_⟩
    ·exact hX
   ·obtain ⟨fk, fa, fc, x0, x1, x2, x3, x4, x5, x6, x7, x8, x9, x10, Y, rfl⟩ := first_w hX hdn hk
    try rw [hk] at hw
    try rw [hk] at hd
    try rw [hk]
    refine (callW_of (hp := [_, _, _]) (X := Y) (Steps1.runs (ze6 ⟨rfl, hsp, hn, (Int.natCast_nonneg _), trivial⟩)) hw hmem hd).mono ?_
    rintro v B' M' ⟨hp', ⟨rfl, gs, rfl, rfl⟩, rfl⟩
    refine ⟨_, List.Sublist.cons_cons _ (List.sublist_cons_self _ _), rfl, ?_, by rw [wp]; rfl⟩
    show TForm c t id (goesOn m) _
    rw [hg]
    simp only [TForm, hk, Kd.ty]
    refine ⟨_, _, _, _, _, _, rfl, ?_⟩
    ·exact hX
   ·obtain ⟨fk, fa, fc, x0, x1, x2, x3, x4, x5, x6, x7, x8, Y, rfl⟩ := first_c hX hdn hk
    try rw [hk] at hw
    try rw [hk] at hd
    try rw [hk]
    refine (callW_of (hp := [_, _, _]) (X := Y) (Steps1.runs (ze9 ⟨rfl, hsp, hn, (Int.natCast_nonneg _), trivial⟩)) hw hmem hd).mono ?_
    rintro v B' M' ⟨hp', ⟨rfl, gs, rfl, rfl⟩, rfl⟩
    refine ⟨_, List.Sublist.cons_cons _ (List.sublist_cons_self _ _), rfl, ?_, by rw [wp]; rfl⟩
    show TForm c t id (goesOn m) _
    rw [hg]
    simp only [TForm, hk, Kd.ty]
    refine ⟨_, _, _, _, _, _, rfl, ?_⟩
    ·exact hX
   ·obtain ⟨fk, fa, fc, x0, x1, x2, x3, x4, x5, Y, rfl⟩ := first_a hX hdn hk
    try rw [hk] at hw
    try rw [hk] at hd
    try rw [hk]
    refine (callW_of (hp := [_, _, _]) (X := Y) (Steps1.runs (zec ⟨rfl, hsp, hn, (Int.natCast_nonneg _), trivial⟩)) hw hmem hd).mono ?_
    rintro v B' M' ⟨hp', ⟨rfl, gs, rfl, rfl⟩, rfl⟩
    refine ⟨_, List.Sublist.cons_cons _ (List.sublist_cons_self _ _), rfl, ?_, by rw [wp]; rfl⟩
    show TForm c t id (goesOn m) _
    rw [hg]
    simp only [TForm, hk, Kd.ty]
    refine ⟨_, _, _, _, _, _, rfl, ?_⟩
    ·exact hX
   ·obtain ⟨fk, fa, fc, x0, x1, x2, x3, x4, x5, x6, x7, x8, x9, x10, x11, x12, x13, Y, rfl⟩ := first_s hX hdn hk
    try rw [hk] at hw
    try rw [hk] at hd
    try rw [hk]
    refine (callW_of (hp := [_, _, _]) (X := Y) (Steps1.runs (zef ⟨rfl, hsp, hn, (Int.natCast_nonneg _), trivial⟩)) hw hmem hd).mono ?_
    rintro v B' M' ⟨hp', ⟨rfl, gs, rfl, rfl⟩, rfl⟩
    refine ⟨_, List.Sublist.cons_cons _ (List.sublist_cons_self _ _), rfl, ?_, by rw [wp]; rfl⟩
    show TForm c t id (goesOn m) _
    rw [hg]
    simp only [TForm, hk, Kd.ty]
    refine ⟨_, _, _, _, _, _, rfl, ?_⟩
    ·exact hX
  ·cases m with
   | done kd a =>
    cases kd
    ·obtain ⟨x0, x1, x2, x3, x4, Y, rfl⟩ := hX
     refine (callW_of (hp := [_, _, _]) (X := Y) (Steps1.runs (ze1 ⟨rfl, hsp, hn, (Int.natCast_nonneg _), trivial⟩)) hw hmem hd).mono ?_
     rintro v B' M' ⟨hp', ⟨rfl, gs, rfl, rfl⟩, rfl⟩
     refine ⟨_, List.Sublist.cons_cons _ (List.sublist_cons_self _ _), rfl, ?_, by rw [wp]; rfl⟩
     exact ⟨_, _, _, _, _, _, rfl, _, _, _, _, _, _, rfl⟩
    ·obtain ⟨z1, z2, x0, x1, x2, x3, x4, x5, x6, x7, x8, x9, Y, rfl⟩ := hX
     refine (callW_of (hp := [_, _, _]) (X := Y) (Steps1.runs (ze4 ⟨rfl, hsp, hn, (Int.natCast_nonneg _), trivial⟩)) hw hmem hd).mono ?_
     rintro v B' M' ⟨hp', ⟨rfl, gs, rfl, rfl⟩, rfl⟩
     refine ⟨_, List.Sublist.cons_cons _ (List.sublist_cons_self _ _), rfl, ?_, by rw [wp]; rfl⟩
     exact ⟨_, _, _, _, _, _, rfl, z1, z2, _, _, _, _, _, _, _, _, _, _, _, rfl⟩
    ·obtain ⟨z1, z2, x0, x1, x2, x3, x4, x5, x6, x7, x8, x9, Y, rfl⟩ := hX
     refine (callW_of (hp := [_, _, _]) (X := Y) (Steps1.runs (ze7 ⟨rfl, hsp, hn, (Int.natCast_nonneg _), trivial⟩)) hw hmem hd).mono ?_
     rintro v B' M' ⟨hp', ⟨rfl, gs, rfl, rfl⟩, rfl⟩
     refine ⟨_, List.Sublist.cons_cons _ (List.sublist_cons_self _ _), rfl, ?_, by rw [wp]; rfl⟩
     exact ⟨_, _, _, _, _, _, rfl, z1, z2, _, _, _, _, _, _, _, _, _, _, _, rfl⟩
    ·obtain ⟨x0, x1, x2, x3, x4, x5, Y, rfl⟩ := hX
     refine (callW_of (hp := [_, _, _]) (X := Y) (Steps1.runs (zea ⟨rfl, hsp, hn, (Int.natCast_nonneg _), trivial⟩)) hw hmem hd).mono ?_
     rintro v B' M' ⟨hp', ⟨rfl, gs, rfl, rfl⟩, rfl⟩
     refine ⟨_, List.Sublist.cons_cons _ (List.sublist_cons_self _ _), rfl, ?_, by rw [wp]; rfl⟩
     exact ⟨_, _, _, _, _, _, rfl, _, _, _, _, _, _, _, rfl⟩
    ·obtain ⟨x0, x1, x2, Y, rfl⟩ := hX
     refine (callW_of (hp := [_, _, _]) (X := Y) (Steps1.runs (zed ⟨rfl, hsp, hn, (Int.natCast_nonneg _), trivial⟩)) hw hmem hd).mono ?_
     rintro v B' M' ⟨hp', ⟨rfl, gs, rfl, rfl⟩, rfl⟩
     refine ⟨_, List.Sublist.cons_cons _ (List.sublist_cons_self _ _), rfl, ?_, by rw [wp]; rfl⟩
     exact ⟨_, _, _, _, _, _, rfl, _, _, _, _, rfl⟩
    ·obtain ⟨z1, z2, x0, x1, x2, x3, x4, x5, x6, x7, x8, x9, x10, x11, x12, x13, Y, rfl⟩ := hX
     refine (callW_of (hp := [_, _, _]) (X := Y) (Steps1.runs (zeg ⟨rfl, hsp, hn, (Int.natCast_nonneg _), trivial⟩)) hw hmem hd).mono ?_
     rintro v B' M' ⟨hp', ⟨rfl, gs, rfl, rfl⟩, rfl⟩
     refine ⟨_, List.Sublist.cons_cons _ (List.sublist_cons_self _ _), rfl, ?_, by rw [wp]; rfl⟩
     exact ⟨_, _, _, _, _, _, rfl, z1, z2, _, _, _, _, _, _, _, _, _, _, _, _, _, _, _, rfl⟩
   | _ => cases hdn
 | work m =>
  obtain ⟨vp, d, a1, a2, a3, X, rfl, hX⟩ := hB
  obtain ⟨X0, X1, rfl, hs⟩ := work_step (mb := mb) (wb := wb) (t := t) (vp := vp) (a1 := a1) (a2 := a2) (a3 := a3) hr hM hn hid hm.1 hX hm.2
  rw [← List.cons_append] at hw hd ⊢
  refine (callW_of (Steps1.runs hs) hw hmem hd).mono ?_
  rintro v B' M' ⟨hp', ⟨rfl, ⟨B2, h1, h2⟩, rfl⟩, rfl⟩
  exact ⟨B2, h1, rfl, h2, rfl⟩
 | leave kd a =>
  obtain ⟨vp, d, a1, a2, a3, X, rfl, hX⟩ := hB
  have hsp : Spot.ok c (.pin id) := hid
  cases kd
  ·obtain ⟨x0, x1, x2, x3, x4, Y, rfl⟩ := hX
   refine (callW_of (hp := [_, _]) (X := Y) (Steps1.runs (ze2 ⟨rfl, hsp, hn, (Int.natCast_nonneg _), trivial⟩)) hw hmem hd).mono ?_
   rintro v B' M' ⟨hp', ⟨rfl, gs, rfl, rfl⟩, rfl⟩
   refine ⟨_, List.Sublist.refl _, rfl, ?_, rfl⟩
   exact ⟨_, _, _, rfl⟩
  ·obtain ⟨z1, z2, x0, x1, x2, x3, x4, x5, x6, x7, x8, x9, Y, rfl⟩ := hX
   refine (callW_of (hp := [_, _]) (X := Y) (Steps1.runs (ze5 ⟨rfl, hsp, hn, (Int.natCast_nonneg _), trivial⟩)) hw hmem hd).mono ?_
   rintro v B' M' ⟨hp', ⟨rfl, gs, rfl, rfl⟩, rfl⟩
   refine ⟨_, List.Sublist.refl _, rfl, ?_, rfl⟩
   show TForm c t id (.idle a) _
   obtain ⟨ae, ah, an⟩ := a
   simp only at z1 z2
   subst z1 z2
   exact ⟨_, _, _, rfl⟩
  ·obtain ⟨z1, z2, x0, x1, x2, x3, x4, x5, x6, x7, x8, x9, Y, rfl⟩ := hX
   refine (callW_of (hp := [_, _]) (X := Y) (Steps1.runs (ze8 ⟨rfl, hsp, hn, (Int.natCast_nonneg _), trivial⟩)) hw hmem hd).mono ?_
   rintro v B' M' ⟨hp', ⟨rfl, gs, rfl, rfl⟩, rfl⟩
   refine ⟨_, List.Sublist.refl _, rfl, ?_, rfl⟩
   show TForm c t id (.idle a) _
   obtain ⟨ae, ah, an⟩ := a
   simp only at z1 z2
   subst z1 z2
   exact ⟨_, _, _, rfl⟩
  ·obtain ⟨x0, x1, x2, x3, x4, x5, Y, rfl⟩ := hX
   refine (callW_of (hp := [_, _]) (X := Y) (Steps1.runs (zeb ⟨rfl, hsp, hn, (Int.natCast_nonneg _), trivial⟩)) hw hmem hd).mono ?_
   rintro v B' M' ⟨hp', ⟨rfl, gs, rfl, rfl⟩, rfl⟩
   refine ⟨_, List.Sublist.refl _, rfl, ?_, rfl⟩
   exact ⟨_, _, _, rfl⟩
  ·obtain ⟨x0, x1, x2, Y, rfl⟩ := hX
   refine (callW_of (hp := [_, _]) (X := Y) (Steps1.runs (zee ⟨rfl, hsp, hn, (Int.natCast_nonneg _), trivial⟩)) hw hmem hd).mono ?_
   rintro v B' M' ⟨hp', ⟨rfl, gs, rfl, rfl⟩, rfl⟩
   refine ⟨_, List.Sublist.refl _, rfl, ?_, rfl⟩
   exact ⟨_, _, _, rfl⟩
  ·obtain ⟨z1, z2, x0, x1, x2, x3, x4, x5, x6, x7, x8, x9, x10, x11, x12, x13, Y, rfl⟩ := hX
   refine (callW_of (hp := [_, _]) (X := Y) (Steps1.runs (zeh ⟨rfl, hsp, hn, (Int.natCast_nonneg _), trivial⟩)) hw hmem hd).mono ?_
   rintro v B' M' ⟨hp', ⟨rfl, gs, rfl, rfl⟩, rfl⟩
   refine ⟨_, List.Sublist.refl _, rfl, ?_, rfl⟩
   show TForm c t id (.idle a) _
   obtain ⟨ae, ah, an⟩ := a
   simp only at z1 z2
   subst z1 z2
   exact ⟨_, _, _, rfl⟩
def tstart (c : Cfg) (kind : Int) (h : Nat) (k : Int) : TSt → Bool × TSt
 | .idle a => if 1 ≤ kind ∧ kind ≤ 6 then (true, .pinLoad (begins c kind h k)) else (false, .idle a)
 | st => (false, st)
theorem tstart_yes (c : Cfg) (kind : Int) (h : Nat) (k : Int) (a : Ans) (h1 : 1 ≤ kind) (h2 : kind ≤ 6) : tstart c kind h k (.idle a) = (true, .pinLoad (begins c kind h k)) := if_pos ⟨h1, h2⟩
theorem CallW.monoP {c : Cfg} {mb wb : Nat} {f : FuncId} {args : Array Value} {w : World} {B : List Blk} {n : Nat} {R R' : Value → List Blk → Mm → Prop} (h : CallW c mb wb f args w B n R) (hR : ∀ v B' M', R v B' M' → ∃ B1 B2, List.Perm B1 B' ∧ List.Sublist B2 B1 ∧ R' v B2 M') : CallW c mb wb f args w B n R' := by
 refine Calls.mono h ?_
 rintro e w' ⟨v, B', M', rfl, h1, h2, h3, h4, h5⟩
 obtain ⟨B1, B2, h6, h7, h8⟩ := hR _ _ _ h1
 exact ⟨v, B2, M', rfl, h8, has_sub (has_perm h2 h6) h7, h3, h4, fun x hx => h5 x (h6.subset (h7.subset hx))⟩
theorem tk_ints {c : Cfg} {h : Nat} (k : Ti.ofB (h : Int) c.S = true) : Ti.ofS (h : Int) c.S = (sl h : Int) ∧ Ti.slotN (h : Int) = (sl h : Int) ∧ Ti.ofG (h : Int) c.S = ((h / 16 : Nat) : Int) := by
 have h1 := k
 unfold Ti.ofB Ti.slotB at h1
 simp at h1
 refine ⟨?_, ?_, ?_⟩
 ·unfold Ti.ofS; rw [if_pos k]; unfold sl; omega
 ·unfold Ti.slotN Ti.slotB; rw [if_pos (by simp; omega)]; unfold sl; omega
 ·unfold Ti.ofG; rw [if_pos k]; omega
theorem perm3 (a p b : Blk) (l : List Blk) : List.Perm (a :: p :: b :: l) (a :: b :: p :: l) := (List.Perm.swap b p l).cons a
theorem PC (a b p x y z u : Blk) : List.Perm [a, p, b, z, u, x, y] [a, b, p, x, y, z, u] :=
 (((List.perm_append_comm (l₁ := [z, u]) (l₂ := [x, y])).cons b).cons p |>.cons a).trans (perm3 a p b _)
theorem PA (a b p x y v z u : Blk) : List.Perm [a, p, b, z, u, x, y, v] [a, b, p, x, y, v, z, u] :=
 (((List.perm_append_comm (l₁ := [z, u]) (l₂ := [x, y, v])).cons b).cons p |>.cons a).trans (perm3 a p b _)
theorem tstart_ok {c : Cfg} {mb wb t id : Nat} {M : Mm} {cnt : Nat} {st : TSt} {B : List Blk} {w : World} {kind : Int} {h : Nat} {k : Int} (hh : h < 18446744073709551616) (hB : TForm c t id st B) (hw : Has w B) (hmem : MemAt w mb wb c M cnt) (hd : ∀ x ∈ B, x.b ≠ mb ∧ x.b ≠ wb) :
  CallW c mb wb 34 #[pt t, .agg #[vi kind, vu h, vi k]] w B cnt fun v B' M' => v = .bool (tstart c kind h k st).1 ∧ TForm c t id (tstart c kind h k st).2 B' ∧ M' = M := by
 have busy : ∀ (n : Nat) (vp dv a1 a2 a3 : Value) (X : List Blk), st.isIdle = false → B = thB c t (id : Int) (mv n t) vp dv a1 a2 a3 :: X → CallW c mb wb 34 #[pt t, .agg #[vi kind, vu h, vi k]] w B cnt fun v B' M' => v = .bool (tstart c kind h k st).1 ∧ TForm c t id (tstart c kind h k st).2 B' ∧ M' = M := by
  rintro n vp dv a1 a2 a3 X hi rfl
  refine (callW_of (hp := [_]) (X := X) (zex trivial) hw hmem hd).mono ?_
  rintro v B' M' ⟨hp', ⟨gs, rfl, rfl, rfl⟩, rfl⟩
  have e : tstart c kind h k st = (false, st) := by cases st <;> first | rfl | cases hi
  rw [e]
  exact ⟨_, List.Sublist.refl _, rfl, hB, rfl⟩
 cases st with
 | pinLoad m => obtain ⟨pb, pe, d, a1, a2, a3, X, rfl, hX⟩ := hB; exact busy 59 _ _ _ _ _ _ rfl rfl
 | pinLay pe m => obtain ⟨pb, d, a1, a2, a3, X, rfl, hX⟩ := hB; exact busy 59 _ _ _ _ _ _ rfl rfl
 | work m => obtain ⟨vp, d, a1, a2, a3, X, rfl, hX⟩ := hB; exact busy 124 _ _ _ _ _ _ rfl rfl
 | leave kd a => obtain ⟨vp, d, a1, a2, a3, X, rfl, hX⟩ := hB; exact busy 125 _ _ _ _ _ _ rfl rfl
 | idle a =>
  clear busy
  obtain ⟨pv, dv, X, rfl⟩ := hB
  by_cases h1 : kind < 1
  ·have e : tstart c kind h k (.idle a) = (false, .idle a) := by show (if 1 ≤ kind ∧ kind ≤ 6 then _ else _) = _; rw [if_neg (by omega)]
   rw [e]
   refine (callW_of (hp := [_]) (X := X) (zey ⟨(by simp [*]), trivial⟩) hw hmem hd).mono ?_
   rintro v B' M' ⟨hp', ⟨gs, rfl, rfl, rfl⟩, rfl⟩
   exact ⟨_, List.Sublist.refl _, rfl, ⟨_, _, _, rfl⟩, rfl⟩
  by_cases h2 : kind > 6
  ·have e : tstart c kind h k (.idle a) = (false, .idle a) := by show (if 1 ≤ kind ∧ kind ≤ 6 then _ else _) = _; rw [if_neg (by omega)]
   rw [e]
   refine (callW_of (hp := [_]) (X := X) (zez ⟨(by simp [*]), (by simp [*]), trivial⟩) hw hmem hd).mono ?_
   rintro v B' M' ⟨hp', ⟨gs, rfl, rfl, rfl⟩, rfl⟩
   exact ⟨_, List.Sublist.refl _, rfl, ⟨_, _, _, rfl⟩, rfl⟩
  by_cases h3 : kind = 1
  ·subst h3
   have e : tstart c 1 h k (.idle a) = (true, .pinLoad (.oLook 0)) := by rw [tstart_yes c _ h k a (by omega) (by omega)]; simp [begins, *]
   rw [e]
   refine (callW_of (hp := [_]) (X := X) (zei trivial) hw hmem hd).monoP ?_
   rintro v B' M' ⟨hp', ⟨gs, rfl, rfl, rfl⟩, rfl⟩
   exact ⟨_, _, perm3 _ _ _ _, List.take_sublist 4 _, rfl, ⟨_, _, _, _, _, _, _, rfl, ⟨_, _, _, _, rfl⟩⟩, rfl⟩
  by_cases h4 : kind = 2
  ·subst h4
   by_cases q1 : k < 0
   ·have e : tstart c 2 h k (.idle a) = (true, .pinLoad (.done .r ⟨5, 0, 0⟩)) := by rw [tstart_yes c _ h k a (by omega) (by omega)]; simp [begins, *]
    rw [e]
    refine (callW_of (hp := [_]) (X := X) (zek ⟨(u64 hh), (by simp [*]), trivial⟩) hw hmem hd).monoP ?_
    rintro v B' M' ⟨hp', ⟨gs, rfl, rfl, rfl⟩, rfl⟩
    exact ⟨_, _, perm3 _ _ _ _, List.take_sublist 3 _, rfl, ⟨_, _, _, _, _, _, _, rfl, ⟨rfl, rfl, _, _, _, _, _, _, _, _, _, _, _, rfl⟩⟩, rfl⟩
   by_cases q2 : c.K ≤ k
   ·have e : tstart c 2 h k (.idle a) = (true, .pinLoad (.done .r ⟨5, 0, 0⟩)) := by rw [tstart_yes c _ h k a (by omega) (by omega)]; simp [begins, *]
    rw [e]
    refine (callW_of (hp := [_]) (X := X) (zel ⟨(u64 hh), (by simp [*]), (by simp [*]), trivial⟩) hw hmem hd).monoP ?_
    rintro v B' M' ⟨hp', ⟨gs, rfl, rfl, rfl⟩, rfl⟩
    exact ⟨_, _, perm3 _ _ _ _, List.take_sublist 3 _, rfl, ⟨_, _, _, _, _, _, _, rfl, ⟨rfl, rfl, _, _, _, _, _, _, _, _, _, _, _, rfl⟩⟩, rfl⟩
   cases q3 : Ti.ofB (h : Int) c.S
   ·have e : tstart c 2 h k (.idle a) = (true, .pinLoad (.done .r ⟨2, 0, 0⟩)) := by rw [tstart_yes c _ h k a (by omega) (by omega)]; simp [begins, *]
    rw [e]
    refine (callW_of (hp := [_]) (X := X) (zem ⟨(u64 hh), (by simp [*]), (by simp [*]), (by simp [*]), trivial⟩) hw hmem hd).monoP ?_
    rintro v B' M' ⟨hp', ⟨gs, rfl, rfl, rfl⟩, rfl⟩
    exact ⟨_, _, perm3 _ _ _ _, List.take_sublist 3 _, rfl, ⟨_, _, _, _, _, _, _, rfl, ⟨rfl, rfl, _, _, _, _, _, _, _, _, _, _, _, rfl⟩⟩, rfl⟩
   ·obtain ⟨k1, k2, k3⟩ := tk_ints q3
    have e : tstart c 2 h k (.idle a) = (true, .pinLoad (.rEnter h k.toNat .look)) := by rw [tstart_yes c _ h k a (by omega) (by omega)]; simp [begins, *]
    rw [e]
    refine (callW_of (hp := [_]) (X := X) (zej ⟨(u64 hh), (by simp [*]), (by simp [*]), (by simp [*]), (u64 hh), trivial⟩) hw hmem hd).monoP ?_
    rintro v B' M' ⟨hp', ⟨gs, rfl, hb, rfl⟩, rfl⟩
    simp only [k1, k2, k3] at hb
    have kk : k = ((k.toNat : Nat) : Int) := by omega
    rw [kk] at hb
    subst hb
    exact ⟨_, _, perm3 _ _ _ _, List.take_sublist 5 _, rfl, ⟨_, _, _, _, _, _, _, rfl, ⟨_, _, _, _, _, _, _, _, _, _, _, _, rfl, rfl⟩⟩, rfl⟩
  by_cases h5 : kind = 3
  ·subst h5
   by_cases q1 : k < 0
   ·have e : tstart c 3 h k (.idle a) = (true, .pinLoad (.done .w ⟨5, 0, 0⟩)) := by rw [tstart_yes c _ h k a (by omega) (by omega)]; simp [begins, *]
    rw [e]
    refine (callW_of (hp := [_]) (X := X) (zeo ⟨(u64 hh), (by simp [*]), trivial⟩) hw hmem hd).monoP ?_
    rintro v B' M' ⟨hp', ⟨gs, rfl, rfl, rfl⟩, rfl⟩
    exact ⟨_, _, perm3 _ _ _ _, List.take_sublist 3 _, rfl, ⟨_, _, _, _, _, _, _, rfl, ⟨rfl, rfl, _, _, _, _, _, _, _, _, _, _, _, rfl⟩⟩, rfl⟩
   by_cases q2 : c.K ≤ k
   ·have e : tstart c 3 h k (.idle a) = (true, .pinLoad (.done .w ⟨5, 0, 0⟩)) := by rw [tstart_yes c _ h k a (by omega) (by omega)]; simp [begins, *]
    rw [e]
    refine (callW_of (hp := [_]) (X := X) (zep ⟨(u64 hh), (by simp [*]), (by simp [*]), trivial⟩) hw hmem hd).monoP ?_
    rintro v B' M' ⟨hp', ⟨gs, rfl, rfl, rfl⟩, rfl⟩
    exact ⟨_, _, perm3 _ _ _ _, List.take_sublist 3 _, rfl, ⟨_, _, _, _, _, _, _, rfl, ⟨rfl, rfl, _, _, _, _, _, _, _, _, _, _, _, rfl⟩⟩, rfl⟩
   cases q3 : Ti.ofB (h : Int) c.S
   ·have e : tstart c 3 h k (.idle a) = (true, .pinLoad (.done .w ⟨2, 0, 0⟩)) := by rw [tstart_yes c _ h k a (by omega) (by omega)]; simp [begins, *]
    rw [e]
    refine (callW_of (hp := [_]) (X := X) (zeq ⟨(u64 hh), (by simp [*]), (by simp [*]), (by simp [*]), trivial⟩) hw hmem hd).monoP ?_
    rintro v B' M' ⟨hp', ⟨gs, rfl, rfl, rfl⟩, rfl⟩
    exact ⟨_, _, perm3 _ _ _ _, List.take_sublist 3 _, rfl, ⟨_, _, _, _, _, _, _, rfl, ⟨rfl, rfl, _, _, _, _, _, _, _, _, _, _, _, rfl⟩⟩, rfl⟩
   ·obtain ⟨k1, k2, k3⟩ := tk_ints q3
    have e : tstart c 3 h k (.idle a) = (true, .pinLoad (.wEnter h k.toNat .look)) := by rw [tstart_yes c _ h k a (by omega) (by omega)]; simp [begins, *]
    rw [e]
    refine (callW_of (hp := [_]) (X := X) (zen ⟨(u64 hh), (by simp [*]), (by simp [*]), (by simp [*]), (u64 hh), trivial⟩) hw hmem hd).monoP ?_
    rintro v B' M' ⟨hp', ⟨gs, rfl, hb, rfl⟩, rfl⟩
    simp only [k1, k2, k3] at hb
    have kk : k = ((k.toNat : Nat) : Int) := by omega
    rw [kk] at hb
    subst hb
    exact ⟨_, _, perm3 _ _ _ _, List.take_sublist 5 _, rfl, ⟨_, _, _, _, _, _, _, rfl, ⟨_, _, _, _, _, _, _, _, _, _, _, _, rfl, rfl⟩⟩, rfl⟩
  by_cases h6 : kind = 4
  ·subst h6
   cases q3 : Ti.ofB (h : Int) c.S
   ·have e : tstart c 4 h k (.idle a) = (true, .pinLoad (.done .c ⟨2, 0, 0⟩)) := by rw [tstart_yes c _ h k a (by omega) (by omega)]; simp [begins, *]
    rw [e]
    refine (callW_of (hp := [_]) (X := X) (zes ⟨(u64 hh), (by simp [*]), trivial⟩) hw hmem hd).monoP ?_
    rintro v B' M' ⟨hp', ⟨gs, rfl, rfl, rfl⟩, rfl⟩
    exact ⟨_, _, perm3 _ _ _ _, List.take_sublist 3 _, rfl, ⟨_, _, _, _, _, _, _, rfl, ⟨_, _, _, _, _, _, _, rfl⟩⟩, rfl⟩
   ·obtain ⟨k1, k2, k3⟩ := tk_ints q3
    have e : tstart c 4 h k (.idle a) = (true, .pinLoad (.cEnter h .look)) := by rw [tstart_yes c _ h k a (by omega) (by omega)]; simp [begins, *]
    rw [e]
    refine (callW_of (hp := [_]) (X := X) (zer ⟨(u64 hh), (by simp [*]), (u64 hh), trivial⟩) hw hmem hd).monoP ?_
    rintro v B' M' ⟨hp', ⟨gs, rfl, hb, rfl⟩, rfl⟩
    simp only [k1, k2, k3] at hb
    subst hb
    exact ⟨_, _, (PC _ _ _ _ _ _ _).append_right _, List.take_sublist 7 _, rfl, ⟨_, _, _, _, _, _, _, rfl, ⟨_, _, _, _, _, _, _, _, _, _, _, rfl, rfl⟩⟩, rfl⟩
  by_cases h7 : kind = 5
  ·subst h7
   cases q3 : Ti.ofB (h : Int) c.S
   ·have e : tstart c 5 h k (.idle a) = (true, .pinLoad (.done .a ⟨2, 0, 0⟩)) := by rw [tstart_yes c _ h k a (by omega) (by omega)]; simp [begins, *]
    rw [e]
    refine (callW_of (hp := [_]) (X := X) (zeu ⟨(u64 hh), (by simp [*]), trivial⟩) hw hmem hd).monoP ?_
    rintro v B' M' ⟨hp', ⟨gs, rfl, rfl, rfl⟩, rfl⟩
    exact ⟨_, _, perm3 _ _ _ _, List.take_sublist 3 _, rfl, ⟨_, _, _, _, _, _, _, rfl, ⟨_, _, _, _, rfl⟩⟩, rfl⟩
   ·obtain ⟨k1, k2, k3⟩ := tk_ints q3
    have e : tstart c 5 h k (.idle a) = (true, .pinLoad (.aEnter h .look)) := by rw [tstart_yes c _ h k a (by omega) (by omega)]; simp [begins, *]
    rw [e]
    refine (callW_of (hp := [_]) (X := X) (zet ⟨(u64 hh), (by simp [*]), (u64 hh), trivial⟩) hw hmem hd).monoP ?_
    rintro v B' M' ⟨hp', ⟨gs, rfl, hb, rfl⟩, rfl⟩
    simp only [k1, k2, k3] at hb
    subst hb
    exact ⟨_, _, (PA _ _ _ _ _ _ _ _).append_right _, List.take_sublist 8 _, rfl, ⟨_, _, _, _, _, _, _, rfl, ⟨_, _, _, _, _, _, _, _, _, rfl, rfl⟩⟩, rfl⟩
  have h8 : kind = 6 := by omega
  subst h8
  cases q3 : Ti.ofB (h : Int) c.S
  ·have e : tstart c 6 h k (.idle a) = (true, .pinLoad (.done .s ⟨2, 0, 0⟩)) := by rw [tstart_yes c _ h k a (by omega) (by omega)]; simp [begins, *]
   rw [e]
   refine (callW_of (hp := [_]) (X := X) (zew ⟨(u64 hh), (by simp [*]), trivial⟩) hw hmem hd).monoP ?_
   rintro v B' M' ⟨hp', ⟨gs, rfl, rfl, rfl⟩, rfl⟩
   exact ⟨_, _, perm3 _ _ _ _, List.take_sublist 3 _, rfl, ⟨_, _, _, _, _, _, _, rfl, ⟨rfl, rfl, _, _, _, _, _, _, _, _, _, _, _, _, _, _, _, rfl⟩⟩, rfl⟩
  ·obtain ⟨k1, k2, k3⟩ := tk_ints q3
   have e : tstart c 6 h k (.idle a) = (true, .pinLoad (.sEnter h .look)) := by rw [tstart_yes c _ h k a (by omega) (by omega)]; simp [begins, *]
   rw [e]
   refine (callW_of (hp := [_]) (X := X) (zev ⟨(u64 hh), (by simp [*]), (u64 hh), trivial⟩) hw hmem hd).monoP ?_
   rintro v B' M' ⟨hp', ⟨gs, rfl, hb, rfl⟩, rfl⟩
   simp only [k1, k2, k3] at hb
   subst hb
   exact ⟨_, _, perm3 _ _ _ _, List.take_sublist 5 _, rfl, ⟨_, _, _, _, _, _, _, rfl, ⟨_, _, _, _, _, _, _, _, _, _, _, _, _, rfl, rfl⟩⟩, rfl⟩
structure AOK (c : Cfg) (a : Acc) : Prop where
 lt : a.2 < 18446744073709551616
 key : ∀ k, a.1 = .key k → kwOK c a.2
 tal : a.1 = .tally → ((a.2 % 16 : Nat) : Int) ≤ c.S
theorem MemOK.upd {c : Cfg} {M : Mm} (h : MemOK c M) {a : Acc} (ha : AOK c a) : MemOK c (upd M a.1 a.2) := by
 refine ⟨fun s => ?_, fun k => ?_, ?_⟩
 ·unfold Ax.upd; split
  ·exact ha.lt
  ·exact h.lt s
 ·unfold Ax.upd; split
  ·rename_i e; exact ha.key k e.symm
  ·exact h.key k
 ·unfold Ax.upd; split
  ·rename_i e; exact ha.tal e.symm
  ·exact h.tal
theorem AOK.ld {c : Cfg} {M : Mm} (h : MemOK c M) (s : Spot) : AOK c (ld M s) := ⟨h.lt s, fun k e => by have e' : s = .key k := e; subst e'; exact h.key k, fun e => by have e' : s = .tally := e; subst e'; exact h.tal⟩
theorem AOK.cas {c : Cfg} {M : Mm} (h : MemOK c M) {s : Spot} {o v : Nat} (hv : AOK c (s, v)) : AOK c (cas M s o v) := by
 unfold Um.cas
 by_cases e : M s = o
 ·rw [if_pos e]; exact hv
 ·rw [if_neg e]; exact AOK.ld h s
theorem AOK.plain {c : Cfg} {s : Spot} {v : Nat} (hv : v < 18446744073709551616) (h1 : ∀ k, s ≠ .key k) (h2 : s ≠ .tally) : AOK c (s, v) := ⟨hv, fun k e => (h1 k e).elim, fun e => (h2 e).elim⟩
theorem AOK.status {c : Cfg} {i v : Nat} (hv : v < 18446744073709551616) : AOK c (.status i, v) := .plain hv (by intro k h; cases h) (by intro h; cases h)
theorem mv_lt {s x : Nat} (b : Bool) (h : s < 18446744073709551616) (hx : x < 8) : St.moveN s x b < 18446744073709551616 := St.moveN_lt b h hx
section
variable {c : Cfg} {M : Mm}
theorem hstep_ok (hM : MemOK c M) {w : Nat} {p : HP} (h : hOK c w p) : AOK c (hstep M w p).1 ∧ ∀ p', (hstep M w p).2 = some p' → hOK c w p' := by
 obtain ⟨h1, h2, h3, h4⟩ := h
 cases p with
 | number => exact ⟨.cas hM (.plain (show w / 16 < _ by omega) (by intro k h; cases h) (by intro h; cases h)), fun p' e => by cases e; exact ⟨h1, h2, h3, fun s e => by cases e⟩⟩
 | look =>
  refine ⟨.ld hM _, fun p' e => ?_⟩
  cases e
  refine ⟨h1, h2, h3, fun s e => ?_⟩
  split at e
  ·cases e; exact hM.lt _
  ·cases e
 | lay s =>
  refine ⟨.cas hM (.status (mv_lt _ (h4 s rfl) (by omega))), fun p' e => ?_⟩
  cases e
  refine ⟨h1, h2, h3, fun s e => ?_⟩
  split at e <;> cases e
 | settle =>
  refine ⟨.cas hM ⟨show w / 16 * 16 < _ by omega, (by intro k h; cases h), fun _ => ?_⟩, fun p' e => by cases e⟩
  show ((w / 16 * 16 % 16 : Nat) : Int) ≤ c.S
  omega
theorem estep_ok (hM : MemOK c M) {h : Nat} {ok : Nat → Bool} {p : EP} (hp : eOK p) : AOK c (estep M h ok p).1 ∧ ∀ p', (estep M h ok p).2 = .go p' → eOK p' := by
 cases p with
 | look =>
  refine ⟨.ld hM _, fun p' e => ?_⟩
  unfold estep at e
  simp only at e
  repeat' (split at e)
  all_goals (first | (cases e; done) | (cases e; exact hM.lt _))
 | swap s =>
  refine ⟨.cas hM (.status (mv_lt _ hp (stOf_lt _))), fun p' e => ?_⟩
  unfold estep at e
  simp only at e
  split at e
  ·cases e
  ·cases e; trivial
theorem lstep_ok (hM : MemOK c M) {i : Nat} {ab : Bool} {p : EP} (hp : eOK p) : AOK c (lstep M i ab p).1 ∧ ∀ p', (lstep M i ab p).2 = some p' → eOK p' := by
 cases p with
 | look => exact ⟨.ld hM _, fun p' e => by cases e; exact hM.lt _⟩
 | swap s =>
  refine ⟨.cas hM (.status (mv_lt _ hp (by cases ab; exact stOf_lt _; exact (by decide : (5 : Nat) < 8)))), fun p' e => ?_⟩
  unfold lstep at e
  simp only at e
  split at e
  ·cases e
  ·cases e; trivial
theorem ostep_ok (hM : MemOK c M) {i j : Nat} {k : Nat} (hk : k ≤ 1) (hj : j < 12) {p : EP} (hp : eOK p) : AOK c (ostep M i (k : Int) j p).1 ∧ ∀ p', (ostep M i (k : Int) j p).2 = some p' → eOK p' := by
 cases p with
 | look =>
  refine ⟨.ld hM _, fun p' e => ?_⟩
  unfold ostep at e
  simp only at e
  split at e
  ·cases e
  ·cases e; exact hM.lt _
 | swap s =>
  refine ⟨.cas hM (.status (with_lt hk hj hp)), fun p' e => ?_⟩
  unfold ostep at e
  simp only at e
  split at e
  ·cases e
  ·cases e; trivial
theorem jjudge_ok {s : Nat} {side : Int} {b : Nat} (hs : s < 18446744073709551616) : ∀ p', jjudge s side b = .go p' → jOK p' := by
 intro p' e
 unfold jjudge at e
 repeat' (split at e)
 all_goals (first | (cases e; done) | (cases e; exact hs))
theorem jstep_ok (hM : MemOK c M) {j b n : Nat} {k : Nat} (hk : k ≤ 1) (hb : b < 12) {p : JP} (hp : jOK p) : AOK c (jstep M j (k : Int) b n p).1 ∧ ∀ p', (jstep M j (k : Int) b n p).2 = .go p' → jOK p' := by
 cases p with
 | look =>
  refine ⟨.ld hM _, fun p' e => ?_⟩
  unfold jstep at e
  simp only at e
  split at e
  ·rename_i h4
   cases e
   exact ⟨hM.lt _, h4⟩
  ·split at e
   ·exact jjudge_ok (hM.lt _) _ e
   ·cases e
 | number s =>
  refine ⟨.ld hM _, fun p' e => ?_⟩
  unfold jstep at e
  simp only at e
  split at e
  ·cases e
  ·exact jjudge_ok hp.1 _ e
 | lay s =>
  refine ⟨.cas hM (.status (with_lt hk hb hp)), fun p' e => ?_⟩
  unfold jstep at e
  simp only at e
  split at e
  ·cases e
  ·cases e; trivial
theorem other_ok {w : Nat} (h : kwOK c w) (k i : Nat) (hk : k ≤ 1) : lOK c (otherN w (k : Int) i) := by
 intro j hj
 exact h k j hk (mem_other.1 hj).2.1
theorem kw_with {w i k : Nat} (h : kwOK c w) (hk : k ≤ 1) (hi : i < 12) (hs : (i : Int) < c.S) : kwOK c (Ma.withW w (k : Int) (i : Int)) := by
 intro k' j hk' hj
 rcases hasM_with w k i k' j hk hi hk' hj with h1 | ⟨_, rfl⟩
 ·exact h k' j hk' h1
 ·exact hs
theorem kw_drop {w i : Nat} (h : kwOK c w) (hi : i < 12) : kwOK c (Ma.dropW w (i : Int)) := by
 intro k' j hk' hj
 exact h k' j hk' (hasM_drop w i k' j hi hk' hj).1
theorem AOK.key' {k v : Nat} (hv : v < 18446744073709551616) (h : kwOK c v) : AOK c (.key k, v) := ⟨hv, fun k' e => by cases e; exact h, fun e => by cases e⟩
variable {id : Nat}
theorem rNext_ok {h k n : Nat} {r : List Nat} (h1 : tk c h) (h2 : (k : Int) < c.K) (h3 : n < 18446744073709551616) (h4 : lOK c r) : mOK c id (rNext h k n r) := by
 cases r with
 | nil => exact ⟨h1, trivial⟩
 | cons j r => exact ⟨h1, h2, h3, h4, trivial⟩
theorem wNext_ok {h k n : Nat} {r : List Nat} (h1 : tk c h) (h2 : (k : Int) < c.K) (h3 : n < 18446744073709551616) (h4 : lOK c r) : mOK c id (wNext h k n r) := by
 cases r with
 | nil => exact ⟨h1, trivial⟩
 | cons j r => exact ⟨h1, h2, h3, h4, trivial⟩
theorem wGoes_ok {h k n w : Nat} {r : List Nat} (h1 : tk c h) (h2 : (k : Int) < c.K) (h3 : n < 18446744073709551616) (h4 : lOK c r) (h5 : w < 18446744073709551616) (h6 : kwOK c w) : mOK c id (wGoes h k n w r) := by
 cases r with
 | nil =>
  simp only [wGoes]
  split
  ·exact wNext_ok h1 h2 h3 (other_ok h6 0 _ (by omega))
  ·exact ⟨h1, h2, h3, h5, h6⟩
 | cons j r => exact ⟨h1, h2, h3, h5, h6, h4⟩
theorem lOK.tail {j : Nat} {r : List Nat} (h : lOK c (j :: r)) : lOK c r := fun x hx => h x (List.mem_cons_of_mem _ hx)
theorem sAges_ok {h j num : Nat} (h1 : tk c h) : mOK c id (sAges c h j num) := by
 unfold sAges
 split
 ·exact ⟨h1, by assumption⟩
 ·exact h1
theorem sGoes_ok (hr : c.right) {h : Nat} {cl : Bool} (h1 : tk c h) : mOK c id (sGoes h cl) := by
 cases cl
 ·exact ⟨h1, by obtain ⟨a1, a2, a3, a4, a5, a6, a7, a8, a9, a10⟩ := hr; show ((0 : Nat) : Int) < c.K; omega⟩
 ·exact h1
theorem sGraces_ok (hr : c.right) {h : Nat} {cl : Bool} {j r : Nat} (h1 : tk c h) (h2 : r < 18446744073709551616) : mOK c id (sGraces c h cl j r) := by
 unfold sGraces
 split
 ·exact ⟨h1, by assumption, h2⟩
 ·exact sGoes_ok hr h1
theorem sKey_ok {h k : Nat} (h1 : tk c h) : mOK c id (sKey c h k) := by
 unfold sKey
 split
 ·exact ⟨h1, by assumption⟩
 ·exact h1
theorem sOther_ok {h j n : Nat} (h1 : tk c h) (h2 : n < 18446744073709551616) : mOK c id (sOther c h j n) := by
 unfold sOther
 split
 ·exact ⟨h1, by assumption, h2⟩
 ·exact h1
theorem oGoes_ok {i : Nat} : mOK c id (oGoes c i) := by
 unfold oGoes
 split
 ·rename_i h; exact h
 ·trivial
theorem mstep_ok (hr : c.right) (hM : MemOK c M) (m : Mach) (hm : mOK c id m) : AOK c (mstep c id M m).1 ∧ mOK c id (mstep c id M m).2 := by
 have hr' := hr
 obtain ⟨a1, a2, a3, a4, a5, a6, a7, a8, a9, a10⟩ := hr'
 have t12 : ∀ {h : Nat}, tk c h → sl h < 12 := fun k => by have := tk_of k; omega
 have tS : ∀ {h : Nat}, tk c h → (sl h : Int) < c.S := fun k => (tk_of k).2.2.1
 have hsn : ∀ (i v : Nat), v < 18446744073709551616 → AOK c (.snapshot i, v) := fun i v h => .plain h (by intro k h; cases h) (by intro h; cases h)
 have hnu : ∀ (i v : Nat), v < 18446744073709551616 → AOK c (.number i, v) := fun i v h => .plain h (by intro k h; cases h) (by intro h; cases h)
 have hre : ∀ (i v : Nat), v < 18446744073709551616 → AOK c (.retired i, v) := fun i v h => .plain h (by intro k h; cases h) (by intro h; cases h)
 have hpd : 1 ≤ M .tally % 16 → hOK c (M .tally) .number := fun h => ⟨h, hM.tal, hM.lt _, fun s e => by cases e⟩
 cases m with
 | oLook i =>
  refine ⟨.ld hM _, ?_⟩
  simp only [mstep]
  split
  ·exact oGoes_ok
  ·exact ⟨hm, hM.lt _⟩
 | oTake i s =>
  refine ⟨.cas hM (.status (mv_lt _ hm.2 (by omega))), ?_⟩
  simp only [mstep]
  split
  ·exact hm
  ·exact oGoes_ok
 | oTally i s =>
  refine ⟨.ld hM _, ?_⟩
  simp only [mstep]
  split
  ·rename_i h; exact ⟨hm.1, hm.2, hpd h⟩
  ·exact ⟨hm.1, hm.2, by have := hM.lt .tally; omega⟩
 | oHelp i s w p =>
  obtain ⟨h1, h2, h3⟩ := hm
  obtain ⟨k1, k2⟩ := hstep_ok hM h3
  refine ⟨k1, ?_⟩
  simp only [mstep]
  split
  ·rename_i e; exact ⟨h1, h2, k2 _ e⟩
  ·exact ⟨h1, h2⟩
 | oNote i s q => exact ⟨hsn _ _ hm.2.2, hm⟩
 | oStart i s q => exact ⟨.status (mv_lt _ hm.2.1 (by omega)), trivial⟩
 | rEnter h k p =>
  obtain ⟨h1, h2, h3⟩ := hm
  obtain ⟨k1, k2⟩ := estep_ok (h := h) (ok := (· == 2)) hM h3
  refine ⟨k1, ?_⟩
  simp only [mstep]
  split
  ·trivial
  ·rename_i e; exact ⟨h1, h2, k2 _ e⟩
  ·exact ⟨h1, h2⟩
 | rSnap h k => exact ⟨.ld hM _, hm.1, hm.2, hM.lt _⟩
 | rLook h k n =>
  obtain ⟨h1, h2, h3⟩ := hm
  refine ⟨.ld hM _, ?_⟩
  simp only [mstep]
  split
  ·exact rNext_ok h1 h2 h3 (other_ok (hM.key k) 1 _ (by omega))
  ·exact ⟨h1, h2, h3, hM.lt _, hM.key k⟩
 | rMark h k n w =>
  obtain ⟨h1, h2, h3, h4, h5⟩ := hm
  refine ⟨.cas hM (.key' (withM_lt (k := 0) (by omega) (t12 h1) h4) (kw_with (k := 0) h5 (by omega) (t12 h1) (tS h1))), ?_⟩
  simp only [mstep]
  split
  ·exact rNext_ok h1 h2 h3 (other_ok h5 1 _ (by omega))
  ·exact ⟨h1, h2, h3⟩
 | rJoin h k n j r p =>
  obtain ⟨h1, h2, h3, h4, h5⟩ := hm
  obtain ⟨k1, k2⟩ := jstep_ok (j := j) (n := n) (k := 1) hM (by omega) (t12 h1) h5
  refine ⟨k1, ?_⟩
  simp only [mstep]
  split
  ·rename_i e; exact ⟨h1, h2, h3, h4, k2 _ e⟩
  ·exact rNext_ok h1 h2 h3 h4.tail
  ·exact ⟨h1, h2, h3, h4, trivial⟩
  ·exact ⟨h1, trivial⟩
 | rOwn h k n j r p =>
  obtain ⟨h1, h2, h3, h4, h5⟩ := hm
  have hj : j < 12 := by have := h4 j (List.mem_cons_self ..); omega
  obtain ⟨k1, k2⟩ := ostep_ok (i := sl h) (k := 0) hM (by omega) hj h5
  refine ⟨k1, ?_⟩
  simp only [mstep]
  split
  ·rename_i e; exact ⟨h1, h2, h3, h4, k2 _ e⟩
  ·exact rNext_ok h1 h2 h3 h4.tail
 | rLeave h k ab p e =>
  obtain ⟨h1, h5⟩ := hm
  obtain ⟨k1, k2⟩ := lstep_ok (i := sl h) (ab := ab) hM h5
  refine ⟨k1, ?_⟩
  simp only [mstep]
  split
  ·rename_i e; exact ⟨h1, k2 _ e⟩
  ·trivial
 | wEnter h k p =>
  obtain ⟨h1, h2, h3⟩ := hm
  obtain ⟨k1, k2⟩ := estep_ok (h := h) (ok := (· == 2)) hM h3
  refine ⟨k1, ?_⟩
  simp only [mstep]
  split
  ·trivial
  ·rename_i e; exact ⟨h1, h2, k2 _ e⟩
  ·exact ⟨h1, h2⟩
 | wSnap h k => exact ⟨.ld hM _, hm.1, hm.2, hM.lt _⟩
 | wLook h k n =>
  obtain ⟨h1, h2, h3⟩ := hm
  exact ⟨.ld hM _, wGoes_ok h1 h2 h3 (other_ok (hM.key k) 1 _ (by omega)) (hM.lt _) (hM.key k)⟩
 | wRival h k n w j r =>
  obtain ⟨h1, h2, h3, h4, h5, h6⟩ := hm
  refine ⟨.ld hM _, ?_⟩
  simp only [mstep]
  split
  ·exact ⟨h1, trivial⟩
  ·split
   ·exact ⟨h1, h2, h3, h4, h5, h6⟩
   ·exact wGoes_ok h1 h2 h3 h6.tail h4 h5
 | wNumber h k n w j r =>
  obtain ⟨h1, h2, h3, h4, h5, h6⟩ := hm
  refine ⟨.ld hM _, ?_⟩
  simp only [mstep]
  split
  ·exact wGoes_ok h1 h2 h3 h6.tail h4 h5
  ·exact ⟨h1, trivial⟩
 | wMark h k n w =>
  obtain ⟨h1, h2, h3, h4, h5⟩ := hm
  refine ⟨.cas hM (.key' (withM_lt (k := 1) (by omega) (t12 h1) h4) (kw_with (k := 1) h5 (by omega) (t12 h1) (tS h1))), ?_⟩
  simp only [mstep]
  split
  ·exact wNext_ok h1 h2 h3 (other_ok h5 0 _ (by omega))
  ·exact ⟨h1, h2, h3⟩
 | wJoin h k n j r p =>
  obtain ⟨h1, h2, h3, h4, h5⟩ := hm
  obtain ⟨k1, k2⟩ := jstep_ok (j := j) (n := n) (k := 0) hM (by omega) (t12 h1) h5
  refine ⟨k1, ?_⟩
  simp only [mstep]
  split
  ·rename_i e; exact ⟨h1, h2, h3, h4, k2 _ e⟩
  ·exact wNext_ok h1 h2 h3 h4.tail
  ·exact ⟨h1, h2, h3, h4, trivial⟩
  ·exact ⟨h1, trivial⟩
 | wOwn h k n j r p =>
  obtain ⟨h1, h2, h3, h4, h5⟩ := hm
  have hj : j < 12 := by have := h4 j (List.mem_cons_self ..); omega
  obtain ⟨k1, k2⟩ := ostep_ok (i := sl h) (k := 1) hM (by omega) hj h5
  refine ⟨k1, ?_⟩
  simp only [mstep]
  split
  ·rename_i e; exact ⟨h1, h2, h3, h4, k2 _ e⟩
  ·exact wNext_ok h1 h2 h3 h4.tail
 | wLeave h k ab p e =>
  obtain ⟨h1, h5⟩ := hm
  obtain ⟨k1, k2⟩ := lstep_ok (i := sl h) (ab := ab) hM h5
  refine ⟨k1, ?_⟩
  simp only [mstep]
  split
  ·rename_i e; exact ⟨h1, k2 _ e⟩
  ·trivial
 | cEnter h p =>
  obtain ⟨h1, h3⟩ := hm
  obtain ⟨k1, k2⟩ := estep_ok (h := h) (ok := (· == 2)) hM h3
  refine ⟨k1, ?_⟩
  simp only [mstep]
  split
  ·trivial
  ·rename_i e; exact ⟨h1, k2 _ e⟩
  ·exact h1
 | cJudge h =>
  refine ⟨.ld hM _, ?_⟩
  simp only [mstep]
  split
  ·exact ⟨hm, hM.lt _⟩
  ·exact ⟨hm, hM.lt _⟩
 | cDoom h s =>
  refine ⟨.cas hM (.status (mv_lt _ hm.2 (by omega))), ?_⟩
  simp only [mstep]
  split
  ·trivial
  ·exact hm.1
 | cPromise h s =>
  refine ⟨.cas hM (.status (mv_lt _ hm.2 (by omega))), ?_⟩
  simp only [mstep]
  split
  ·exact hm.1
  ·exact hm.1
 | cCount h =>
  refine ⟨.ld hM _, ?_⟩
  simp only [mstep]
  split
  ·rename_i h1; exact ⟨hm, hpd h1⟩
  ·split
   ·exact ⟨hm, trivial⟩
   ·exact ⟨hm, hM.lt _, by omega, by omega⟩
 | cHelp h w p =>
  obtain ⟨h1, h3⟩ := hm
  obtain ⟨k1, k2⟩ := hstep_ok hM h3
  refine ⟨k1, ?_⟩
  simp only [mstep]
  split
  ·rename_i e; exact ⟨h1, k2 _ e⟩
  ·exact h1
 | cNumber h w =>
  obtain ⟨h1, h2, h3, h4⟩ := hm
  have q12 := t12 h1
  have qS := tS h1
  have hnx : nextN w (sl h : Int) = 16 * (w / 16 + 1) + (sl h + 1) := by
   unfold nextN
   rw [(Ta.next_yes (x := (w : Int)) (p := (sl h : Int)) ⟨by omega, by omega, by omega, by omega⟩).2]
   omega
  refine ⟨.cas hM ⟨show nextN w (sl h : Int) < _ by rw [hnx]; omega, (by intro k h; cases h), fun _ => show ((nextN w (sl h : Int) % 16 : Nat) : Int) ≤ c.S by rw [hnx]; omega⟩, ?_⟩
  simp only [mstep]
  split
  ·refine ⟨h1, h2, ?_, ?_, ?_, fun s e => by cases e⟩
   ·rw [hnx]; omega
   ·rw [hnx]; omega
   ·rw [hnx]; omega
  ·exact h1
 | cNote h w hw p =>
  obtain ⟨h1, h2, h3⟩ := hm
  obtain ⟨k1, k2⟩ := hstep_ok hM h3
  refine ⟨k1, ?_⟩
  simp only [mstep]
  split
  ·rename_i e; exact ⟨h1, h2, k2 _ e⟩
  ·exact ⟨h1, trivial⟩
 | cLeave h ab p a =>
  obtain ⟨h1, h5⟩ := hm
  obtain ⟨k1, k2⟩ := lstep_ok (i := sl h) (ab := ab) hM h5
  refine ⟨k1, ?_⟩
  simp only [mstep]
  split
  ·rename_i e; exact ⟨h1, k2 _ e⟩
  ·trivial
 | aEnter h p =>
  obtain ⟨h1, h3⟩ := hm
  obtain ⟨k1, k2⟩ := estep_ok (h := h) (ok := (· == 2)) hM h3
  refine ⟨k1, ?_⟩
  simp only [mstep]
  split
  ·trivial
  ·rename_i e; exact ⟨h1, k2 _ e⟩
  ·exact h1
 | aThen h => exact ⟨.ld hM _, hm, hM.lt _⟩
 | aLeave h p =>
  obtain ⟨h1, h5⟩ := hm
  obtain ⟨k1, k2⟩ := lstep_ok (i := sl h) (ab := true) hM h5
  refine ⟨k1, ?_⟩
  simp only [mstep]
  split
  ·rename_i e; exact ⟨h1, k2 _ e⟩
  ·trivial
 | sEnter h p =>
  obtain ⟨h1, h3⟩ := hm
  obtain ⟨k1, k2⟩ := estep_ok (h := h) (ok := seen4) hM h3
  refine ⟨k1, ?_⟩
  simp only [mstep]
  split
  ·trivial
  ·rename_i e; exact ⟨h1, k2 _ e⟩
  ·repeat' split
   all_goals exact h1
 | sNumber h => exact ⟨.ld hM _, sAges_ok hm⟩
 | sAged h j num sn =>
  obtain ⟨h1, h2⟩ := hm
  cases sn
  ·refine ⟨.ld hM _, ?_⟩
   simp only [mstep]
   split
   ·exact ⟨h1, trivial⟩
   ·split
    ·exact ⟨h1, h2⟩
    ·exact sAges_ok h1
  ·refine ⟨.ld hM _, ?_⟩
   simp only [mstep]
   split
   ·exact ⟨h1, trivial⟩
   ·exact sAges_ok h1
 | sDie h => exact ⟨.ld hM _, hm, hM.lt _⟩
 | sDead h w =>
  refine ⟨.cas hM (.status (mv_lt _ hm.2 (by omega))), ?_⟩
  simp only [mstep]
  split
  ·exact hm.1
  ·exact hm.1
 | sTick h cl => exact ⟨.plain (Nat.mod_lt _ (by omega)) (by intro k h; cases h) (by intro h; cases h), hm, hM.lt _⟩
 | sNote h cl r => exact ⟨hre _ _ hm.2, sGraces_ok hr hm.1 hm.2⟩
 | sRetired h cl => exact ⟨.ld hM _, sGraces_ok hr hm (hM.lt _)⟩
 | sGrace h cl j r =>
  obtain ⟨h1, h2, h3⟩ := hm
  refine ⟨.ld hM _, ?_⟩
  simp only [mstep]
  split
  ·exact ⟨h1, trivial⟩
  ·exact sGraces_ok hr h1 h3
 | sKeys h k =>
  refine ⟨.ld hM _, ?_⟩
  simp only [mstep]
  split
  ·exact sKey_ok hm.1
  ·exact ⟨hm.1, hm.2, hM.lt _, hM.key k⟩
 | sUnmark h k w =>
  obtain ⟨h1, h2, h3, h4⟩ := hm
  refine ⟨.cas hM (.key' (dropM_lt h3) (kw_drop h4 (t12 h1))), ?_⟩
  simp only [mstep]
  split
  ·exact sKey_ok h1
  ·exact ⟨h1, h2⟩
 | sPast h => exact ⟨.ld hM _, sOther_ok hm (hM.lt _)⟩
 | sOthers h j n =>
  obtain ⟨h1, h2, h3⟩ := hm
  refine ⟨.ld hM _, ?_⟩
  simp only [mstep]
  split
  ·exact sOther_ok h1 h3
  ·exact ⟨h1, h2, h3, hM.lt _⟩
 | sPart h j n w =>
  obtain ⟨h1, h2, h3, h4⟩ := hm
  refine ⟨.cas hM (.status (drop_lt _ h4)), ?_⟩
  simp only [mstep]
  split
  ·exact sOther_ok h1 h3
  ·exact ⟨h1, h2, h3⟩
 | sClose h => exact ⟨.ld hM _, hm, hM.lt _⟩
 | sClosed h w =>
  refine ⟨.cas hM (.status (mv_lt _ hm.2 (by omega))), ?_⟩
  simp only [mstep]
  split
  ·exact hm.1
  ·exact hm.1
 | sNought h => exact ⟨hnu _ _ (by omega), hm⟩
 | sFree h =>
  have := tk_of hm
  exact ⟨.status (St.wordN_lt (by omega) (by omega) (by omega) (by omega)), trivial⟩
 | sLater h p =>
  obtain ⟨h1, h5⟩ := hm
  obtain ⟨k1, k2⟩ := lstep_ok (i := sl h) (ab := false) hM h5
  refine ⟨k1, ?_⟩
  simp only [mstep]
  split
  ·rename_i e; exact ⟨h1, k2 _ e⟩
  ·trivial
 | done kd a => exact ⟨.ld hM _, trivial⟩
theorem goesOn_ok {m : Mach} (h : mOK c id m) : tOK c id (goesOn m) := by
 cases m <;> first | trivial | exact ⟨h, rfl⟩
theorem tstep_keeps (hr : c.right) (hM : MemOK c M) (st : TSt) (h : tOK c id st) : MemOK c (upd M (tstep c id M st).1.1 (tstep c id M st).1.2) ∧ tOK c id (tstep c id M st).2 := by
 cases st with
 | idle a => exact ⟨hM.upd (.ld hM _), trivial⟩
 | pinLoad m => exact ⟨hM.upd (.ld hM _), hM.lt _, h⟩
 | pinLay e m => exact ⟨hM.upd (.plain (Nat.mod_lt _ (by omega)) (by intro k h; cases h) (by intro h; cases h)), goesOn_ok h.2⟩
 | work m =>
  obtain ⟨h1, h2⟩ := mstep_ok hr hM m h.1
  exact ⟨hM.upd h1, goesOn_ok h2⟩
 | leave kd a => exact ⟨hM.upd (.plain (by omega) (by intro k h; cases h) (by intro h; cases h)), trivial⟩
theorem begins_ok (hr : c.right) {kind : Int} {h : Nat} {k : Int} (hh : h < 18446744073709551616) : mOK c id (begins c kind h k) := by
 obtain ⟨a1, a2, a3, a4, a5, a6, a7, a8, a9, a10⟩ := hr
 have tkh : ¬ Ti.ofB (h : Int) c.S = false → tk c h := fun e => ⟨by simpa using e, hh⟩
 unfold begins
 repeat' split
 all_goals first | trivial | (show ((0 : Nat) : Int) < c.S; omega) | exact ⟨tkh (by assumption), by omega, trivial⟩ | exact ⟨tkh (by assumption), trivial⟩
end
end Go.Proofs.YtfinmiakbpmjiaaGreat.Um
