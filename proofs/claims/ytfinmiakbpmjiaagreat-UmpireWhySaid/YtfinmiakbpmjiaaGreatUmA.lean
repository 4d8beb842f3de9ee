/-
  The machine in plain words.
-/
import Derived.Test.YtfinmiakbpmjiaaGreatAxA
set_option linter.unusedVariables false
namespace Go.Proofs.YtfinmiakbpmjiaaGreat.Um
open Go Go.Proofs.YtfinmiakbpmjiaaGreat Go.Proofs.YtfinmiakbpmjiaaGreat.Ax
abbrev Mm := Spot → Nat
structure Ans where
 e : Int
 h : Nat
 n : Nat
 deriving DecidableEq
inductive HP
 | number | look | lay (s : Nat) | settle
 deriving DecidableEq
inductive EP
 | look | swap (s : Nat)
 deriving DecidableEq
inductive JP
 | look | number (s : Nat) | lay (s : Nat)
 deriving DecidableEq
inductive Kd
 | o | r | w | c | a | s
 deriving DecidableEq
def Kd.ty : Kd → Nat
 | .o => 167 | .r => 169 | .w => 171 | .c => 173 | .a => 175 | .s => 177
inductive Mach
 | oLook (i : Nat) | oTake (i s : Nat) | oTally (i s : Nat) | oHelp (i s w : Nat) (p : HP) | oNote (i s q : Nat) | oStart (i s q : Nat)
 | rEnter (h k : Nat) (p : EP) | rSnap (h k : Nat) | rLook (h k n : Nat) | rMark (h k n w : Nat) | rJoin (h k n j : Nat) (r : List Nat) (p : JP) | rOwn (h k n j : Nat) (r : List Nat) (p : EP) | rLeave (h k : Nat) (ab : Bool) (p : EP) (e : Int)
 | wEnter (h k : Nat) (p : EP) | wSnap (h k : Nat) | wLook (h k n : Nat) | wRival (h k n w j : Nat) (r : List Nat) | wNumber (h k n w j : Nat) (r : List Nat) | wMark (h k n w : Nat) | wJoin (h k n j : Nat) (r : List Nat) (p : JP) | wOwn (h k n j : Nat) (r : List Nat) (p : EP) | wLeave (h k : Nat) (ab : Bool) (p : EP) (e : Int)
 | cEnter (h : Nat) (p : EP) | cJudge (h : Nat) | cDoom (h s : Nat) | cPromise (h s : Nat) | cCount (h : Nat) | cHelp (h w : Nat) (p : HP) | cNumber (h w : Nat) | cNote (h w hw : Nat) (p : HP) | cLeave (h : Nat) (ab : Bool) (p : EP) (a : Ans)
 | aEnter (h : Nat) (p : EP) | aThen (h : Nat) | aLeave (h : Nat) (p : EP)
 | sEnter (h : Nat) (p : EP) | sNumber (h : Nat) | sAged (h j num : Nat) (sn : Bool) | sDie (h : Nat) | sDead (h w : Nat) | sTick (h : Nat) (cl : Bool) | sNote (h : Nat) (cl : Bool) (r : Nat) | sRetired (h : Nat) (cl : Bool) | sGrace (h : Nat) (cl : Bool) (j r : Nat)
 | sKeys (h k : Nat) | sUnmark (h k w : Nat) | sPast (h : Nat) | sOthers (h j n : Nat) | sPart (h j n w : Nat) | sClose (h : Nat) | sClosed (h w : Nat) | sNought (h : Nat) | sFree (h : Nat) | sLater (h : Nat) (p : EP)
 | done (kd : Kd) (a : Ans)
 deriving DecidableEq
def sl (h : Nat) : Nat := h % 16 - 1
def stOf (w : Nat) : Nat := St.numW w 27 3
def gnOf (w : Nat) : Nat := St.numW w 30 32
def bz (w : Nat) : Bool := w.testBit 26
def otherN (w : Nat) (k : Int) (i : Nat) : List Nat := (List.range 12).filter fun j : Nat => Ma.hasW w k (j : Int) && j != i
abbrev Acc := Spot × Nat
def ld (M : Mm) (s : Spot) : Acc := (s, M s)
def cas (M : Mm) (s : Spot) (o v : Nat) : Acc := (s, if M s = o then v else M s)
def hstep (M : Mm) (w : Nat) : HP → Acc × Option HP
 | .number => (cas M (.number (w % 16 - 1)) 0 (w / 16), some .look)
 | .look => (ld M (.status (w % 16 - 1)), some (if stOf (M (.status (w % 16 - 1))) = 3 then .lay (M (.status (w % 16 - 1))) else .settle))
 | .lay s => (cas M (.status (w % 16 - 1)) s (St.moveN s 4 (bz s)), some (if M (.status (w % 16 - 1)) = s then .settle else .look))
 | .settle => (cas M .tally w (w / 16 * 16), none)
inductive ER
 | no (e : Int) | go (p : EP) | yes (s : Nat)
def estep (M : Mm) (h : Nat) (ok : Nat → Bool) : EP → Acc × ER
 | .look => (ld M (.status (sl h)), if gnOf (M (.status (sl h))) ≠ h / 16 then .no 2 else if stOf (M (.status (sl h))) = 0 then .no 2 else if stOf (M (.status (sl h))) = 1 then .no 2
   else if bz (M (.status (sl h))) = true then .no 3 else if ok (stOf (M (.status (sl h)))) = true then .go (.swap (M (.status (sl h)))) else .no 4)
 | .swap s => (cas M (.status (sl h)) s (St.moveN s (stOf s) true), if M (.status (sl h)) = s then .yes s else .go .look)
def lstep (M : Mm) (i : Nat) (ab : Bool) : EP → Acc × Option EP
 | .look => (ld M (.status i), some (.swap (M (.status i))))
 | .swap s => (cas M (.status i) s (St.moveN s (if ab then 5 else stOf s) false), if M (.status i) = s then none else some .look)
inductive JR
 | go (p : JP) | none | laid | fail
def jjudge (s : Nat) (side : Int) (by' : Nat) : JR :=
 if St.hasW s side (by' : Int) = true then .laid else if stOf s ≠ 2 ∧ St.anyW s (1 - side) = true then .fail else .go (.lay s)
def jstep (M : Mm) (j : Nat) (side : Int) (by' n : Nat) : JP → Acc × JR
 | .look => (ld M (.status j), if stOf (M (.status j)) = 4 then .go (.number (M (.status j))) else if stOf (M (.status j)) = 2 ∨ stOf (M (.status j)) = 3 then jjudge (M (.status j)) side by' else .none)
 | .number s => (ld M (.number j), if Ta.pastB (M (.number j) : Int) (n : Int) = true then .none else jjudge s side by')
 | .lay s => (cas M (.status j) s (St.withW s side (by' : Int)), if M (.status j) = s then .laid else .go .look)
def ostep (M : Mm) (i : Nat) (side : Int) (j : Nat) : EP → Acc × Option EP
 | .look => (ld M (.status i), if St.withW (M (.status i)) side (j : Int) = M (.status i) then none else some (.swap (M (.status i))))
 | .swap s => (cas M (.status i) s (St.withW s side (j : Int)), if M (.status i) = s then none else some .look)
def oGoes (c : Cfg) (i : Nat) : Mach := if ((i + 1 : Nat) : Int) < c.S then .oLook (i + 1) else .done .o ⟨6, 0, 0⟩
def rNext (h k n : Nat) : List Nat → Mach
 | [] => .rLeave h k false .look 0
 | j :: r => .rJoin h k n j r .look
def rFound (h k n w : Nat) : Mach := rNext h k n (otherN w 1 (sl h))
def wNext (h k n : Nat) : List Nat → Mach
 | [] => .wLeave h k false .look 0
 | j :: r => .wJoin h k n j r .look
def wFound (h k n w : Nat) : Mach := wNext h k n (otherN w 0 (sl h))
def wGoes (h k n w : Nat) : List Nat → Mach
 | [] => if Ma.hasW w 1 (sl h : Int) = true then wFound h k n w else .wMark h k n w
 | j :: r => .wRival h k n w j r
def nxN (j i : Nat) : Nat := if j + 1 = i then j + 2 else j + 1
def n0 (i : Nat) : Nat := if i = 0 then 1 else 0
def sAges (c : Cfg) (h j num : Nat) : Mach := if (j : Int) < c.S then .sAged h j num false else .sDie h
def sGoes (h : Nat) (cl : Bool) : Mach := if cl then .sNought h else .sKeys h 0
def sGraces (c : Cfg) (h : Nat) (cl : Bool) (j r : Nat) : Mach := if (j : Int) < c.T then .sGrace h cl j r else sGoes h cl
def sKey (c : Cfg) (h k : Nat) : Mach := if (k : Int) < c.K then .sKeys h k else .sPast h
def sOther (c : Cfg) (h j n : Nat) : Mach := if (j : Int) < c.S then .sOthers h j n else .sClose h
def nzb (n : Nat) : Bool := decide (n ≠ 0)
def seen4 (s : Nat) : Bool := decide (s = 4 ∨ s = 5 ∨ s = 6 ∨ s = 7)
def mstep (c : Cfg) (id : Nat) (M : Mm) : Mach → Acc × Mach
 | .oLook i => (ld M (.status i), if stOf (M (.status i)) ≠ 0 ∨ c.L < (gnOf (M (.status i)) : Int) then oGoes c i else .oTake i (M (.status i)))
 | .oTake i s => (cas M (.status i) s (St.moveN s 1 false), if M (.status i) = s then .oTally i s else oGoes c i)
 | .oTally i s => (ld M .tally, if 1 ≤ M .tally % 16 then .oHelp i s (M .tally) .number else .oNote i s (M .tally / 16))
 | .oHelp i s w p => ((hstep M w p).1, match (hstep M w p).2 with | some p => .oHelp i s w p | none => .oTally i s)
 | .oNote i s q => ((.snapshot i, q), .oStart i s q)
 | .oStart i s q => ((.status i, St.moveN s 2 false), .done .o ⟨0, makeN (i : Int) (gnOf s : Int), q⟩)
 | .rEnter h k p => ((estep M h (· == 2) p).1, match (estep M h (· == 2) p).2 with | .no e => .done .r ⟨e, 0, 0⟩ | .go p => .rEnter h k p | .yes _ => .rSnap h k)
 | .rSnap h k => (ld M (.snapshot (sl h)), .rLook h k (M (.snapshot (sl h))))
 | .rLook h k n => (ld M (.key k), if Ma.hasW (M (.key k)) 0 (sl h : Int) = true then rFound h k n (M (.key k)) else .rMark h k n (M (.key k)))
 | .rMark h k n w => (cas M (.key k) w (Ma.withW w 0 (sl h : Int)), if M (.key k) = w then rFound h k n w else .rLook h k n)
 | .rJoin h k n j r p => ((jstep M j 1 (sl h) n p).1, match (jstep M j 1 (sl h) n p).2 with | .go p => .rJoin h k n j r p | .none => rNext h k n r | .laid => .rOwn h k n j r .look | .fail => .rLeave h k true .look 7)
 | .rOwn h k n j r p => ((ostep M (sl h) 0 j p).1, match (ostep M (sl h) 0 j p).2 with | some p => .rOwn h k n j r p | none => rNext h k n r)
 | .rLeave h k ab p e => ((lstep M (sl h) ab p).1, match (lstep M (sl h) ab p).2 with | some p => .rLeave h k ab p e | none => .done .r ⟨e, 0, 0⟩)
 | .wEnter h k p => ((estep M h (· == 2) p).1, match (estep M h (· == 2) p).2 with | .no e => .done .w ⟨e, 0, 0⟩ | .go p => .wEnter h k p | .yes _ => .wSnap h k)
 | .wSnap h k => (ld M (.snapshot (sl h)), .wLook h k (M (.snapshot (sl h))))
 | .wLook h k n => (ld M (.key k), wGoes h k n (M (.key k)) (otherN (M (.key k)) 1 (sl h)))
 | .wRival h k n w j r => (ld M (.status j), if stOf (M (.status j)) = 2 ∨ stOf (M (.status j)) = 3 then .wLeave h k true .look 8 else if stOf (M (.status j)) = 4 then .wNumber h k n w j r else wGoes h k n w r)
 | .wNumber h k n w j r => (ld M (.number j), if Ta.pastB (M (.number j) : Int) (n : Int) = true then wGoes h k n w r else .wLeave h k true .look 8)
 | .wMark h k n w => (cas M (.key k) w (Ma.withW w 1 (sl h : Int)), if M (.key k) = w then wFound h k n w else .wLook h k n)
 | .wJoin h k n j r p => ((jstep M j 0 (sl h) n p).1, match (jstep M j 0 (sl h) n p).2 with | .go p => .wJoin h k n j r p | .none => wNext h k n r | .laid => .wOwn h k n j r .look | .fail => .wLeave h k true .look 7)
 | .wOwn h k n j r p => ((ostep M (sl h) 1 j p).1, match (ostep M (sl h) 1 j p).2 with | some p => .wOwn h k n j r p | none => wNext h k n r)
 | .wLeave h k ab p e => ((lstep M (sl h) ab p).1, match (lstep M (sl h) ab p).2 with | some p => .wLeave h k ab p e | none => .done .w ⟨e, 0, 0⟩)
 | .cEnter h p => ((estep M h (· == 2) p).1, match (estep M h (· == 2) p).2 with | .no e => .done .c ⟨e, 0, 0⟩ | .go p => .cEnter h p | .yes _ => .cJudge h)
 | .cJudge h => (ld M (.status (sl h)), if St.anyW (M (.status (sl h))) 0 = true ∧ St.anyW (M (.status (sl h))) 1 = true then .cDoom h (M (.status (sl h))) else .cPromise h (M (.status (sl h))))
 | .cDoom h s => (cas M (.status (sl h)) s (St.moveN s 5 false), if M (.status (sl h)) = s then .done .c ⟨7, 0, 0⟩ else .cJudge h)
 | .cPromise h s => (cas M (.status (sl h)) s (St.moveN s 3 true), if M (.status (sl h)) = s then .cCount h else .cJudge h)
 | .cCount h => (ld M .tally, if 1 ≤ M .tally % 16 then .cHelp h (M .tally) .number else if c.Q ≤ ((M .tally / 16 : Nat) : Int) then .cLeave h true .look ⟨6, 0, 0⟩ else .cNumber h (M .tally))
 | .cHelp h w p => ((hstep M w p).1, match (hstep M w p).2 with | some p => .cHelp h w p | none => .cCount h)
 | .cNumber h w => (cas M .tally w (nextN w (sl h : Int)), if M .tally = w then .cNote h w (nextN w (sl h : Int)) .number else .cCount h)
 | .cNote h w hw p => ((hstep M hw p).1, match (hstep M hw p).2 with | some p => .cNote h w hw p | none => .cLeave h false .look ⟨0, 0, w / 16 + 1⟩)
 | .cLeave h ab p a => ((lstep M (sl h) ab p).1, match (lstep M (sl h) ab p).2 with | some p => .cLeave h ab p a | none => .done .c a)
 | .aEnter h p => ((estep M h (· == 2) p).1, match (estep M h (· == 2) p).2 with | .no e => .done .a ⟨e, 0, 0⟩ | .go p => .aEnter h p | .yes _ => .aThen h)
 | .aThen h => (ld M (.status (sl h)), .aLeave h (.swap (M (.status (sl h)))))
 | .aLeave h p => ((lstep M (sl h) true p).1, match (lstep M (sl h) true p).2 with | some p => .aLeave h p | none => .done .a ⟨0, 0, 0⟩)
 | .sEnter h p => ((estep M h seen4 p).1, match (estep M h seen4 p).2 with | .no e => .done .s ⟨e, 0, 0⟩ | .go p => .sEnter h p | .yes s => if stOf s = 4 then .sNumber h else if stOf s = 5 then .sDie h else if stOf s = 6 then .sRetired h false else .sRetired h true)
 | .sNumber h => (ld M (.number (sl h)), sAges c h (n0 (sl h)) (M (.number (sl h))))
 | .sAged h j num false => (ld M (.status j), if stOf (M (.status j)) = 1 then .sLater h .look else if stOf (M (.status j)) = 2 ∨ stOf (M (.status j)) = 3 then .sAged h j num true else sAges c h (nxN j (sl h)) num)
 | .sAged h j num true => (ld M (.snapshot j), if M (.snapshot j) < num then .sLater h .look else sAges c h (nxN j (sl h)) num)
 | .sDie h => (ld M (.status (sl h)), .sDead h (M (.status (sl h))))
 | .sDead h w => (cas M (.status (sl h)) w (St.moveN w 6 true), if M (.status (sl h)) = w then .sTick h false else .sDie h)
 | .sTick h cl => ((.epoch, (M .epoch + 1) % 18446744073709551616), .sNote h cl (M .epoch))
 | .sNote h cl r => ((.retired (sl h), r), sGraces c h cl (n0 id) r)
 | .sRetired h cl => (ld M (.retired (sl h)), sGraces c h cl (n0 id) (M (.retired (sl h))))
 | .sGrace h cl j r => (ld M (.pin j), if M (.pin j) ≠ 0 ∧ M (.pin j) - 1 ≤ r then .sLater h .look else sGraces c h cl (nxN j id) r)
 | .sKeys h k => (ld M (.key k), if Ma.dropW (M (.key k)) (sl h : Int) = M (.key k) then sKey c h (k + 1) else .sUnmark h k (M (.key k)))
 | .sUnmark h k w => (cas M (.key k) w (Ma.dropW w (sl h : Int)), if M (.key k) = w then sKey c h (k + 1) else .sKeys h k)
 | .sPast h => (ld M (.number (sl h)), sOther c h (n0 (sl h)) (M (.number (sl h))))
 | .sOthers h j n => (ld M (.status j), if St.dropW (M (.status j)) (sl h : Int) (nzb n) = M (.status j) then sOther c h (nxN j (sl h)) n else .sPart h j n (M (.status j)))
 | .sPart h j n w => (cas M (.status j) w (St.dropW w (sl h : Int) (nzb n)), if M (.status j) = w then sOther c h (nxN j (sl h)) n else .sOthers h j n)
 | .sClose h => (ld M (.status (sl h)), .sClosed h (M (.status (sl h))))
 | .sClosed h w => (cas M (.status (sl h)) w (St.moveN w 7 true), if M (.status (sl h)) = w then .sTick h true else .sClose h)
 | .sNought h => ((.number (sl h), 0), .sFree h)
 | .sFree h => ((.status (sl h), St.wordN (h / 16 + 1) 0 false false false 0 0), .done .s ⟨0, 0, 0⟩)
 | .sLater h p => ((lstep M (sl h) false p).1, match (lstep M (sl h) false p).2 with | some p => .sLater h p | none => .done .s ⟨9, 0, 0⟩)
 | .done kd a => (ld M .tally, .done kd a)
def Mach.kd : Mach → Kd
 | .oLook .. => .o | .oTake .. => .o | .oTally .. => .o | .oHelp .. => .o | .oNote .. => .o | .oStart .. => .o
 | .rEnter .. => .r | .rSnap .. => .r | .rLook .. => .r | .rMark .. => .r | .rJoin .. => .r | .rOwn .. => .r | .rLeave .. => .r
 | .wEnter .. => .w | .wSnap .. => .w | .wLook .. => .w | .wRival .. => .w | .wNumber .. => .w | .wMark .. => .w | .wJoin .. => .w | .wOwn .. => .w | .wLeave .. => .w
 | .cEnter .. => .c | .cJudge .. => .c | .cDoom .. => .c | .cPromise .. => .c | .cCount .. => .c | .cHelp .. => .c | .cNumber .. => .c | .cNote .. => .c | .cLeave .. => .c
 | .aEnter .. => .a | .aThen .. => .a | .aLeave .. => .a
 | .done k _ => k
 | _ => .s
inductive TSt
 | idle (a : Ans) | pinLoad (m : Mach) | pinLay (e : Nat) (m : Mach) | work (m : Mach) | leave (kd : Kd) (a : Ans)
 deriving DecidableEq
def goesOn : Mach → TSt
 | .done kd a => .leave kd a
 | m => .work m
def tstep (c : Cfg) (id : Nat) (M : Mm) : TSt → Acc × TSt
 | .idle a => (ld M .tally, .idle a)
 | .pinLoad m => (ld M .epoch, .pinLay (M .epoch) m)
 | .pinLay e m => ((.pin id, (e + 1) % 18446744073709551616), goesOn m)
 | .work m => ((mstep c id M m).1, goesOn (mstep c id M m).2)
 | .leave kd a => ((.pin id, 0), .idle a)
def begins (c : Cfg) (kind : Int) (h : Nat) (k : Int) : Mach :=
 if kind = 1 then .oLook 0
 else if kind = 2 then (if k < 0 ∨ c.K ≤ k then .done .r ⟨5, 0, 0⟩ else if Ti.ofB (h : Int) c.S = false then .done .r ⟨2, 0, 0⟩ else .rEnter h k.toNat .look)
 else if kind = 3 then (if k < 0 ∨ c.K ≤ k then .done .w ⟨5, 0, 0⟩ else if Ti.ofB (h : Int) c.S = false then .done .w ⟨2, 0, 0⟩ else .wEnter h k.toNat .look)
 else if kind = 4 then (if Ti.ofB (h : Int) c.S = false then .done .c ⟨2, 0, 0⟩ else .cEnter h .look)
 else if kind = 5 then (if Ti.ofB (h : Int) c.S = false then .done .a ⟨2, 0, 0⟩ else .aEnter h .look)
 else (if Ti.ofB (h : Int) c.S = false then .done .s ⟨2, 0, 0⟩ else .sEnter h .look)
theorem high_eq {x y : Nat} (h : ∀ i, 26 ≤ i → x.testBit i = y.testBit i) : stOf x = stOf y ∧ gnOf x = gnOf y ∧ bz x = bz y := by
 have e : x / 2 ^ 26 = y / 2 ^ 26 := by
  apply Nat.eq_of_testBit_eq
  intro i
  rw [Nat.testBit_div_two_pow, Nat.testBit_div_two_pow]
  exact h _ (by omega)
 refine ⟨?_, ?_, h 26 (by omega)⟩
 ·unfold stOf St.numW pw; omega
 ·unfold gnOf St.numW pw; omega
theorem stOf_lt (w : Nat) : stOf w < 8 := St.numW_lt _ _ _
theorem low8_st (w : Nat) : St.low8 ((St.numW w 27 3 : Nat) : Int) = stOf w := by
 have := stOf_lt w
 unfold stOf at *
 unfold St.low8
 omega
theorem st_move (x S : Nat) (b : Bool) (h : S < 8) : stOf (St.moveN x S b) = S := by
 have := St.bt_le b
 unfold stOf St.numW pw St.moveN
 omega
theorem gn_move (x S : Nat) (b : Bool) (h : S < 8) : gnOf (St.moveN x S b) = gnOf x := by
 have := St.bt_le b
 unfold gnOf St.numW pw St.moveN
 omega
theorem bz_move (x S : Nat) (b : Bool) (h : S < 8) : bz (St.moveN x S b) = b := by
 have := St.bt_le b
 unfold bz
 rw [St.tb, St.bt_dec b]
 congr 1
 unfold St.moveN
 rw [← St.bt_dec b]
 simp only [eq_iff_iff]
 constructor <;> intro h <;> omega
theorem any_iff (x : Nat) (k : Nat) (hk : k ≤ 1) : St.anyW x (k : Int) = true ↔ x / 2 ^ (12 * k) % 4096 ≠ 0 ∨ x / 2 ^ (24 + k) % 2 = 1 := by
 rw [St.any_yes (by omega)]
 have e1 : ((12 : Int) * (k : Int)).toNat = 12 * k := by omega
 have e2 : ((24 : Int) + (k : Int)).toNat = 24 + k := by omega
 rw [e1, e2, St.tb]
 unfold St.numW pw
 simp
theorem any_move (x S : Nat) (b : Bool) (k : Nat) (hk : k ≤ 1) (h : S < 8) : St.anyW (St.moveN x S b) (k : Int) = St.anyW x (k : Int) := by
 have hb := St.bt_le b
 rw [Bool.eq_iff_iff, any_iff _ _ hk, any_iff _ _ hk]
 have h2 : k = 0 ∨ k = 1 := by omega
 unfold St.moveN
 rcases h2 with rfl | rfl <;> constructor <;> intro h <;> rcases h with h | h <;> first | (left; omega) | (right; omega)
theorem pl (k j : Nat) (hk : k ≤ 1) (hj : j < 12) : St.plc (k : Int) (j : Int) = some (12 * k + j) ∧ St.bitOf (k : Int) (j : Int) = 2 ^ (12 * k + j) := by
 have h := St.of_some (k := (k : Int)) (s := (j : Int)) ⟨by omega, by omega, by omega, by omega⟩
 have e : ((12 : Int) * (k : Int) + (j : Int)).toNat = 12 * k + j := by omega
 rw [e] at h
 exact h
theorem plM (k j : Nat) (hk : k ≤ 1) (hj : j < 12) : Ma.plc (k : Int) (j : Int) = some (12 * k + j) ∧ Ma.bitOf (k : Int) (j : Int) = 2 ^ (12 * k + j) := by
 have h := Ma.of_some (k := (k : Int)) (s := (j : Int)) ⟨by omega, by omega, by omega, by omega⟩
 have e : ((12 : Int) * (k : Int) + (j : Int)).toNat = 12 * k + j := by omega
 rw [e] at h
 exact h
theorem has_bit (w k j : Nat) (hk : k ≤ 1) (hj : j < 12) : St.hasW w (k : Int) (j : Int) = w.testBit (12 * k + j) := by
 unfold St.hasW
 rw [(pl k j hk hj).1]
theorem hasM_bit (w k j : Nat) (hk : k ≤ 1) (hj : j < 12) : Ma.hasW w (k : Int) (j : Int) = w.testBit (12 * k + j) := by
 unfold Ma.hasW
 rw [(plM k j hk hj).1]
theorem hasM_far (w k : Nat) (j : Nat) (hj : 12 ≤ j) : Ma.hasW w (k : Int) (j : Int) = false := by
 unfold Ma.hasW
 rw [(Ma.of_none (by omega)).1]
theorem with_bit (w k j i : Nat) (hk : k ≤ 1) (hj : j < 12) : (St.withW w (k : Int) (j : Int)).testBit i = (w.testBit i || decide (12 * k + j = i)) := by
 unfold St.withW
 rw [(pl k j hk hj).2, Nat.testBit_or, Nat.testBit_two_pow]
theorem withM_bit (w k j i : Nat) (hk : k ≤ 1) (hj : j < 12) : (Ma.withW w (k : Int) (j : Int)).testBit i = (w.testBit i || decide (12 * k + j = i)) := by
 unfold Ma.withW
 rw [(plM k j hk hj).2, Nat.testBit_or, Nat.testBit_two_pow]
theorem high_with (w k j : Nat) (hk : k ≤ 1) (hj : j < 12) : stOf (St.withW w (k : Int) (j : Int)) = stOf w ∧ gnOf (St.withW w (k : Int) (j : Int)) = gnOf w ∧ bz (St.withW w (k : Int) (j : Int)) = bz w := by
 apply high_eq
 intro i hi
 rw [with_bit _ _ _ _ hk hj, decide_eq_false (by omega), Bool.or_false]
theorem any_bits (x k : Nat) (hk : k ≤ 1) : St.anyW x (k : Int) = true ↔ (∃ j, j < 12 ∧ x.testBit (12 * k + j) = true) ∨ x.testBit (24 + k) = true := by
 rw [any_iff _ _ hk]
 have e2 : (x / 2 ^ (24 + k) % 2 = 1) ↔ x.testBit (24 + k) = true := by rw [St.tb]; simp
 rw [e2]
 apply or_congr _ Iff.rfl
 constructor
 ·intro h
  obtain ⟨i, hi⟩ := Nat.exists_testBit_of_ne_zero h
  rw [show (4096 : Nat) = 2 ^ 12 from rfl, Nat.testBit_mod_two_pow, Nat.testBit_div_two_pow] at hi
  simp at hi
  exact ⟨i, hi.1, by rw [Nat.add_comm] at hi; rw [Nat.add_comm]; first | exact hi.2 | (rw [Nat.add_comm]; exact hi.2)⟩
 ·rintro ⟨j, hj, h⟩ h0
  have : (x / 2 ^ (12 * k) % 4096).testBit j = true := by
   rw [show (4096 : Nat) = 2 ^ 12 from rfl, Nat.testBit_mod_two_pow, Nat.testBit_div_two_pow]
   simp [hj]
   first | exact h | (rw [Nat.add_comm]; exact h)
  rw [h0] at this
  simp at this
theorem any_with (w k j k' : Nat) (hk : k ≤ 1) (hj : j < 12) (hk' : k' ≤ 1) (h : St.anyW (St.withW w (k : Int) (j : Int)) (k' : Int) = true) : St.anyW w (k' : Int) = true ∨ k' = k := by
 rw [any_bits _ _ hk'] at h
 by_cases e : k' = k
 ·exact Or.inr e
 refine Or.inl ((any_bits _ _ hk').2 ?_)
 rcases h with ⟨i, hi, h⟩ | h
 ·rw [with_bit _ _ _ _ hk hj, decide_eq_false (by omega), Bool.or_false] at h
  exact Or.inl ⟨i, hi, h⟩
 ·rw [with_bit _ _ _ _ hk hj, decide_eq_false (by omega), Bool.or_false] at h
  exact Or.inr h
theorem drop1_bit (x o k j i : Nat) (g : Bool) (hk : k ≤ 1) (hj : j < 12) : (St.drop1 x o (k : Int) (j : Int) g).testBit i = if x.testBit (12 * k + j) then ((o.testBit i && !decide (12 * k + j = i)) || (g && decide (24 + k = i))) else o.testBit i := by
 unfold St.drop1
 rw [has_bit _ _ _ hk hj, (pl k j hk hj).2]
 have e : ((24 : Int) + (k : Int)).toNat = 24 + k := by omega
 rw [e]
 unfold pw
 cases x.testBit (12 * k + j) <;> cases g <;> simp [Nat.testBit_or, testBit_clr, Nat.testBit_two_pow]
theorem drop_bit (x j i : Nat) (g : Bool) (hj : j < 12) : (St.dropW x (j : Int) g).testBit i = if x.testBit (12 + j) then (((if x.testBit j then ((x.testBit i && !decide (j = i)) || (g && decide (24 = i))) else x.testBit i) && !decide (12 + j = i)) || (g && decide (25 = i))) else (if x.testBit j then ((x.testBit i && !decide (j = i)) || (g && decide (24 = i))) else x.testBit i) := by
 unfold St.dropW St.dropN St.dropN St.dropN
 have h0 := drop1_bit x x 0 j i g (by omega) hj
 have h1 := drop1_bit x (St.drop1 x x ((0 : Nat) : Int) (j : Int) g) 1 j i g (by omega) hj
 simp only [Nat.mul_zero, Nat.zero_add, Nat.mul_one, Nat.add_zero] at h0 h1
 rw [h1, h0]
theorem high_drop (w j : Nat) (g : Bool) (hj : j < 12) : stOf (St.dropW w (j : Int) g) = stOf w ∧ gnOf (St.dropW w (j : Int) g) = gnOf w ∧ bz (St.dropW w (j : Int) g) = bz w := by
 apply high_eq
 intro i hi
 rw [drop_bit _ _ _ _ hj]
 have h1 : decide (j = i) = false := decide_eq_false (by omega)
 have h2 : decide (24 = i) = false := decide_eq_false (by omega)
 have h3 : decide (12 + j = i) = false := decide_eq_false (by omega)
 have h4 : decide (25 = i) = false := decide_eq_false (by omega)
 simp [h1, h2, h3, h4]
theorem any_drop (w j k : Nat) (g : Bool) (hj : j < 12) (hk : k ≤ 1) (h : St.anyW (St.dropW w (j : Int) g) (k : Int) = true) : St.anyW w (k : Int) = true := by
 rw [any_bits _ _ hk] at h ⊢
 have h2 : k = 0 ∨ k = 1 := by omega
 by_cases a : w.testBit (12 * k + j) = true
 ·exact Or.inl ⟨j, hj, a⟩
 have a' : w.testBit (12 * k + j) = false := by simpa using a
 rcases h with ⟨i, hi, h⟩ | h
 ·refine Or.inl ⟨i, hi, ?_⟩
  rw [drop_bit _ _ _ _ hj] at h
  have q1 : decide (24 = 12 * k + i) = false := decide_eq_false (by omega)
  have q2 : decide (25 = 12 * k + i) = false := decide_eq_false (by omega)
  simp only [q1, q2, Bool.and_false, Bool.or_false] at h
  split at h <;> (try split at h) <;> simp_all
 ·refine Or.inr ?_
  rw [drop_bit _ _ _ _ hj] at h
  rcases h2 with rfl | rfl
  ·have a1 : w.testBit j = false := by simpa only [Nat.mul_zero, Nat.zero_add] using a'
   have q1 : decide (j = 24 + 0) = false := decide_eq_false (by omega)
   have q2 : decide (12 + j = 24 + 0) = false := decide_eq_false (by omega)
   have q3 : decide (25 = 24 + 0) = false := decide_eq_false (by omega)
   rw [a1, q2, q3] at h
   generalize w.testBit (24 + 0) = z at *
   generalize w.testBit (12 + j) = y at *
   cases y <;> simpa using h
  ·have a1 : w.testBit (12 + j) = false := by simpa only [Nat.mul_one] using a'
   have q1 : decide (j = 24 + 1) = false := decide_eq_false (by omega)
   have q2 : decide (24 = 24 + 1) = false := decide_eq_false (by omega)
   rw [a1, q1, q2] at h
   generalize w.testBit (24 + 1) = z at *
   generalize w.testBit j = y at *
   cases y <;> simpa using h
theorem dropM_bit (w j i : Nat) (hj : j < 12) : (Ma.dropW w (j : Int)).testBit i = (w.testBit i && !(decide (j = i) || decide (12 + j = i))) := by
 unfold Ma.dropW
 have h0 := (plM 0 j (by omega) hj).2
 have h1 := (plM 1 j (by omega) hj).2
 simp only [Nat.mul_zero, Nat.zero_add, Nat.mul_one] at h0 h1
 rw [show (0 : Int) = ((0 : Nat) : Int) from rfl, show (1 : Int) = ((1 : Nat) : Int) from rfl, h0, h1, testBit_clr, Nat.testBit_or, Nat.testBit_two_pow, Nat.testBit_two_pow]
theorem with_lt {w k j : Nat} (hk : k ≤ 1) (hj : j < 12) (h : w < 18446744073709551616) : St.withW w (k : Int) (j : Int) < 18446744073709551616 := by
 unfold St.withW
 exact Nat.or_lt_two_pow (n := 64) h (St.bitOf_lt _ _)
theorem withM_lt {w k j : Nat} (hk : k ≤ 1) (hj : j < 12) (h : w < 18446744073709551616) : Ma.withW w (k : Int) (j : Int) < 18446744073709551616 := by
 unfold Ma.withW
 exact Nat.or_lt_two_pow (n := 64) h (Ma.bitOf_lt _ _)
theorem drop_lt {w j : Nat} (g : Bool) (h : w < 18446744073709551616) : St.dropW w (j : Int) g < 18446744073709551616 := St.dropN_lt g h 2 (by omega)
theorem dropM_lt {w j : Nat} (h : w < 18446744073709551616) : Ma.dropW w (j : Int) < 18446744073709551616 := lt_clr _ h
theorem hasM_with (w k j k' j' : Nat) (hk : k ≤ 1) (hj : j < 12) (hk' : k' ≤ 1) (h : Ma.hasW (Ma.withW w (k : Int) (j : Int)) (k' : Int) (j' : Int) = true) : Ma.hasW w (k' : Int) (j' : Int) = true ∨ k' = k ∧ j' = j := by
 by_cases h12 : j' < 12
 ·rw [hasM_bit _ _ _ hk' h12, withM_bit _ _ _ _ hk hj] at h
  rw [hasM_bit _ _ _ hk' h12]
  cases e : w.testBit (12 * k' + j')
  ·rw [e] at h; simp at h; exact Or.inr (by omega)
  ·exact Or.inl rfl
 ·rw [hasM_far _ _ _ (by omega)] at h; simp at h
theorem hasM_drop (w j k' j' : Nat) (hj : j < 12) (hk' : k' ≤ 1) (h : Ma.hasW (Ma.dropW w (j : Int)) (k' : Int) (j' : Int) = true) : Ma.hasW w (k' : Int) (j' : Int) = true ∧ j' ≠ j := by
 by_cases h12 : j' < 12
 ·rw [hasM_bit _ _ _ hk' h12, dropM_bit _ _ _ hj] at h
  rw [hasM_bit _ _ _ hk' h12]
  simp at h
  exact ⟨h.1, by omega⟩
 ·rw [hasM_far _ _ _ (by omega)] at h; simp at h
theorem dropM_same (w j k' : Nat) (hj : j < 12) (hk' : k' ≤ 1) (h : Ma.dropW w (j : Int) = w) : Ma.hasW w (k' : Int) (j : Int) = false := by
 rw [hasM_bit _ _ _ hk' hj, ← h, dropM_bit _ _ _ hj]
 simp
 intro _
 omega
theorem others_eq (w : Nat) (k : Int) (i : Nat) : others w k (i : Int) = (otherN w k i).map fun j : Nat => (j : Int) := by
 unfold others Ma.but Ma.upto otherN
 rw [List.filter_map, List.filter_filter]
 congr 1
 apply List.filter_congr
 intro j _
 show (((j : Int) != (i : Int)) && Ma.hasW w k (j : Int)) = (Ma.hasW w k (j : Int) && j != i)
 rw [Bool.and_comm]
 congr 1
 by_cases e : j = i
 ·subst e
  simp only [bne_self_eq_false]
 ·have h1 : (j : Int) ≠ (i : Int) := by omega
  rw [bne_iff_ne.2 e, bne_iff_ne.2 h1]
theorem mem_other {w : Nat} {k : Int} {i j : Nat} : j ∈ otherN w k i ↔ j < 12 ∧ Ma.hasW w k (j : Int) = true ∧ j ≠ i := by
 unfold otherN
 simp
theorem gn_word (g : Nat) (h : g ≤ 1073741824) : stOf (St.wordN g 0 false false false 0 0) = 0 ∧ gnOf (St.wordN g 0 false false false 0 0) = g ∧ bz (St.wordN g 0 false false false 0 0) = false ∧ ∀ k : Nat, k ≤ 1 → St.anyW (St.wordN g 0 false false false 0 0) (k : Int) = false := by
 have e : St.wordN g 0 false false false 0 0 = 1073741824 * g := by unfold St.wordN; simp [St.bt]
 rw [e]
 refine ⟨by unfold stOf St.numW pw; omega, by unfold gnOf St.numW pw; omega, ?_, ?_⟩
 ·unfold bz; rw [St.tb]; simp; omega
 ·intro k hk
  have h2 : k = 0 ∨ k = 1 := by omega
  rw [Bool.eq_false_iff]
  intro h
  rw [any_iff _ _ hk] at h
  rcases h2 with rfl | rfl <;> omega
end Go.Proofs.YtfinmiakbpmjiaaGreat.Um
namespace Go.Proofs.YtfinmiakbpmjiaaGreat.Um
open Go Go.RowKit Go.Proofs.YtfinmiakbpmjiaaGreat Go.Proofs.YtfinmiakbpmjiaaGreat.Ax
def tk (c : Cfg) (h : Nat) : Prop := Ti.ofB (h : Int) c.S = true ∧ h < 18446744073709551616
def eOK : EP → Prop
 | .look => True
 | .swap s => s < 18446744073709551616
def jOK : JP → Prop
 | .look => True
 | .number s => s < 18446744073709551616 ∧ stOf s = 4
 | .lay s => s < 18446744073709551616
def hOK (c : Cfg) (w : Nat) (p : HP) : Prop := 1 ≤ w % 16 ∧ ((w % 16 : Nat) : Int) ≤ c.S ∧ w < 18446744073709551616 ∧ ∀ s, p = .lay s → s < 18446744073709551616
def lOK (c : Cfg) (r : List Nat) : Prop := ∀ j ∈ r, (j : Int) < c.S
def kwOK (c : Cfg) (w : Nat) : Prop := ∀ kd j : Nat, kd ≤ 1 → Ma.hasW w (kd : Int) (j : Int) = true → (j : Int) < c.S
structure MemOK (c : Cfg) (M : Mm) : Prop where
 lt : ∀ s, M s < 18446744073709551616
 key : ∀ k, kwOK c (M (.key k))
 tal : ((M .tally % 16 : Nat) : Int) ≤ c.S
def EV : EP → Value → Bool → Prop
 | .look, _, b => b = false
 | .swap s, v, b => v = vu s ∧ b = true
def HV : HP → Value → Value → Prop
 | .number, a, _ => a = hf 225
 | .look, a, _ => a = hf 256
 | .lay s, a, v => a = hf 273 ∧ v = vu s
 | .settle, a, _ => a = hf 272
def JV (jb : Nat) : JP → Value → Value → Prop
 | .look, _, a => a = mv 275 jb
 | .number s, v, a => v = vu s ∧ a = mv 289 jb
 | .lay s, v, a => v = vu s ∧ a = mv 297 jb
def RowA (r : List Nat) (l : List Int) (at' : Int) : Prop := ∃ a : Nat, at' = (a : Int) ∧ l.length ≤ 12 ∧ a < l.length ∧ l.drop (a + 1) = r.map fun j : Nat => (j : Int)
def RowV (r : List Nat) (l : List Int) (f len cap : Nat) : Prop := len = r.length ∧ len ≤ cap ∧ (r ≠ [] → l.drop f = r.map fun j : Nat => (j : Int))
def doneF (c : Cfg) (id d : Nat) : Kd → Ans → List Blk → Prop
 | .o, a, B => ∃ (slot : Int) (nx s q aid : Value) (X : List Blk), B = openB d .nilFunc nx slot s q aid a.e a.h a.n :: X
 | .r, a, B => a.h = 0 ∧ a.n = 0 ∧ ∃ (key slot : Int) (n w en nx ot jo ow le : Value) (X : List Blk), B = readB d .nilFunc key slot n w en nx ot jo ow le a.e :: X
 | .w, a, B => a.h = 0 ∧ a.n = 0 ∧ ∃ (key slot : Int) (n w en nx ot jo ow le : Value) (X : List Blk), B = writeB d .nilFunc key slot n w en nx ot jo ow le a.e :: X
 | .c, a, B => ∃ (slot : Int) (en le s w aid : Value) (X : List Blk), B = commitB d .nilFunc slot en le a.e a.h a.n s w aid :: X
 | .a, a, B => ∃ (slot : Int) (en le : Value) (X : List Blk), B = abortB d .nilFunc slot en le a.e a.h a.n :: X
 | .s, a, B => a.h = 0 ∧ a.n = 0 ∧ ∃ (c2 : Cfg) (thread slot gen : Int) (cl : Bool) (nx at' w r n en ag wa le : Value) (X : List Blk), B = sweepB c2 d .nilFunc nx thread slot gen at' cl w r n en ag wa le a.e :: X
def mOK (c : Cfg) (id : Nat) : Mach → Prop
 | .oLook i => (i : Int) < c.S
 | .oTake i s => (i : Int) < c.S ∧ s < 18446744073709551616
 | .oTally i s => (i : Int) < c.S ∧ s < 18446744073709551616
 | .oNote i s q => (i : Int) < c.S ∧ s < 18446744073709551616 ∧ q < 18446744073709551616
 | .oStart i s q => (i : Int) < c.S ∧ s < 18446744073709551616 ∧ q < 18446744073709551616
 | .oHelp i s w p => (i : Int) < c.S ∧ s < 18446744073709551616 ∧ hOK c w p
 | .rEnter h k p => tk c h ∧ (k : Int) < c.K ∧ eOK p
 | .rSnap h k => tk c h ∧ (k : Int) < c.K
 | .rLook h k n => tk c h ∧ (k : Int) < c.K ∧ n < 18446744073709551616
 | .rMark h k n w => tk c h ∧ (k : Int) < c.K ∧ n < 18446744073709551616 ∧ w < 18446744073709551616 ∧ kwOK c w
 | .rJoin h k n j r p => tk c h ∧ (k : Int) < c.K ∧ n < 18446744073709551616 ∧ lOK c (j :: r) ∧ jOK p
 | .rOwn h k n j r p => tk c h ∧ (k : Int) < c.K ∧ n < 18446744073709551616 ∧ lOK c (j :: r) ∧ eOK p
 | .rLeave h k ab p e => tk c h ∧ eOK p
 | .wEnter h k p => tk c h ∧ (k : Int) < c.K ∧ eOK p
 | .wSnap h k => tk c h ∧ (k : Int) < c.K
 | .wLook h k n => tk c h ∧ (k : Int) < c.K ∧ n < 18446744073709551616
 | .wRival h k n w j r => tk c h ∧ (k : Int) < c.K ∧ n < 18446744073709551616 ∧ w < 18446744073709551616 ∧ kwOK c w ∧ lOK c (j :: r)
 | .wNumber h k n w j r => tk c h ∧ (k : Int) < c.K ∧ n < 18446744073709551616 ∧ w < 18446744073709551616 ∧ kwOK c w ∧ lOK c (j :: r)
 | .wMark h k n w => tk c h ∧ (k : Int) < c.K ∧ n < 18446744073709551616 ∧ w < 18446744073709551616 ∧ kwOK c w
 | .wJoin h k n j r p => tk c h ∧ (k : Int) < c.K ∧ n < 18446744073709551616 ∧ lOK c (j :: r) ∧ jOK p
 | .wOwn h k n j r p => tk c h ∧ (k : Int) < c.K ∧ n < 18446744073709551616 ∧ lOK c (j :: r) ∧ eOK p
 | .wLeave h k ab p e => tk c h ∧ eOK p
 | .cEnter h p => tk c h ∧ eOK p
 | .cJudge h => tk c h
 | .cDoom h s => tk c h ∧ s < 18446744073709551616
 | .cPromise h s => tk c h ∧ s < 18446744073709551616
 | .cCount h => tk c h
 | .cNumber h w => tk c h ∧ w < 18446744073709551616 ∧ w % 16 = 0 ∧ ((w / 16 : Nat) : Int) < c.Q
 | .cHelp h w p => tk c h ∧ hOK c w p
 | .cNote h w hw p => tk c h ∧ w < 18446744073709551616 ∧ hOK c hw p
 | .cLeave h ab p a => tk c h ∧ eOK p
 | .aEnter h p => tk c h ∧ eOK p
 | .aThen h => tk c h
 | .aLeave h p => tk c h ∧ eOK p
 | .sEnter h p => tk c h ∧ eOK p
 | .sNumber h => tk c h
 | .sAged h j num sn => tk c h ∧ (j : Int) < c.S
 | .sDie h => tk c h
 | .sDead h w => tk c h ∧ w < 18446744073709551616
 | .sTick h cl => tk c h
 | .sNote h cl r => tk c h ∧ r < 18446744073709551616
 | .sRetired h cl => tk c h
 | .sGrace h cl j r => tk c h ∧ (j : Int) < c.T ∧ r < 18446744073709551616
 | .sKeys h k => tk c h ∧ (k : Int) < c.K
 | .sUnmark h k w => tk c h ∧ (k : Int) < c.K ∧ w < 18446744073709551616 ∧ kwOK c w
 | .sPast h => tk c h
 | .sOthers h j n => tk c h ∧ (j : Int) < c.S ∧ n < 18446744073709551616
 | .sPart h j n w => tk c h ∧ (j : Int) < c.S ∧ n < 18446744073709551616 ∧ w < 18446744073709551616
 | .sClose h => tk c h
 | .sClosed h w => tk c h ∧ w < 18446744073709551616
 | .sNought h => tk c h
 | .sFree h => tk c h
 | .sLater h p => tk c h ∧ eOK p
 | .done _ a => True
def MForm (c : Cfg) (id d : Nat) : Mach → List Blk → Prop
 | .oLook i, B => ∃ (nb : Nat) (s : Value) (q : Value) (aid : Value), B = [openB d (mv 112 d) (nextO nb) (i : Int) s q aid 0 0 0, cntB nb (i : Int)]
 | .oTake i s, B => ∃ (nb : Nat) (q : Value) (aid : Value), B = [openB d (mv 143 d) (nextO nb) (i : Int) (vu s) q aid 0 0 0, cntB nb (i : Int)]
 | .oTally i s, B => ∃ (nb : Nat) (q : Value) (aid : Value), B = [openB d (mv 180 d) (nextO nb) (i : Int) (vu s) q aid 0 0 0, cntB nb (i : Int)]
 | .oNote i s q, B => ∃ (nb : Nat) (aid : Value), B = [openB d (mv 201 d) (nextO nb) (i : Int) (vu s) (vu q) aid 0 0 0, cntB nb (i : Int)]
 | .oStart i s q, B => ∃ (nb : Nat) (aid : Value), B = [openB d (mv 224 d) (nextO nb) (i : Int) (vu s) (vu q) aid 0 0 0, cntB nb (i : Int)]
 | .oHelp i s w p, B => ∃ (nb : Nat) (q : Value) (hb : Nat) (hs : Value) (hv : Value), B = [openB d (mv 203 d) (nextO nb) (i : Int) (vu s) q (pt hb) 0 0 0, helpB hb hs w hv, cntB nb (i : Int)] ∧ HV p hs hv
 | .rEnter h k p, B => ∃ (n : Value) (w : Value) (nx : Value) (ot : Value) (jo : Value) (ow : Value) (le : Value) (eb : Nat) (gb : Nat) (cap : Nat) (sv : Value) (b : Bool), B = [readB d (mv 115 d) (k : Int) (sl h : Int) n w (pt eb) nx ot jo ow le 0, enterB eb (sl h : Int) sv h (.slice (some ⟨gb, 0, none⟩) 1 cap) b false 0 0, boxB gb #[vi 2] 3] ∧ EV p sv b
 | .rSnap h k, B => ∃ (en : Value) (nx : Value) (ot : Value) (jo : Value) (ow : Value) (le : Value) (n : Value) (w : Value), B = [readB d (mv 149 d) (k : Int) (sl h : Int) n w en nx ot jo ow le 0]
 | .rLook h k n, B => ∃ (en : Value) (nx : Value) (ot : Value) (jo : Value) (ow : Value) (le : Value) (w : Value), B = [readB d (mv 186 d) (k : Int) (sl h : Int) (vu n) w en nx ot jo ow le 0]
 | .rMark h k n w, B => ∃ (en : Value) (nx : Value) (ot : Value) (jo : Value) (ow : Value) (le : Value), B = [readB d (mv 206 d) (k : Int) (sl h : Int) (vu n) (vu w) en nx ot jo ow le 0]
 | .rJoin h k n j r p, B => ∃ (ab : Nat) (lb : Nat) (rb : Nat) (at' : Int) (l : List Int) (cap : Nat) (w : Value) (en : Value) (le : Value) (ow : Value) (jb : Nat) (sv : Value) (jv : Value), B = [readB d (mv 259 d) (k : Int) (sl h : Int) (vu n) w en (.func (.func 234) #[] #[pt ab, pt lb]) (vi (j : Int)) (pt jb) ow le 0, joinB jb (j : Int) 1 (sl h : Int) sv jv n 0, cntB ab at', boxB lb #[.slice (some ⟨rb, 0, none⟩) l.length cap] 58, rowB rb l] ∧ JV jb p sv jv ∧ RowA r l at'
 | .rOwn h k n j r p, B => ∃ (ab : Nat) (lb : Nat) (rb : Nat) (at' : Int) (l : List Int) (cap : Nat) (w : Value) (en : Value) (le : Value) (jo : Value) (wb2 : Nat) (sv : Value) (b : Bool), B = [readB d (mv 279 d) (k : Int) (sl h : Int) (vu n) w en (.func (.func 234) #[] #[pt ab, pt lb]) (vi (j : Int)) jo (pt wb2) le 0, ownB wb2 (sl h : Int) 0 (j : Int) sv b false, cntB ab at', boxB lb #[.slice (some ⟨rb, 0, none⟩) l.length cap] 58, rowB rb l] ∧ EV p sv b ∧ RowA r l at'
 | .rLeave h k ab p e, B => ∃ (rb : Nat) (xb : Nat) (n : Value) (w : Value) (en : Value) (nx : Value) (ot : Value) (jo : Value) (ow : Value) (lb : Nat) (sv : Value) (b : Bool), B = [readB d (.func (.func 274) #[] #[pt rb, pt xb]) (k : Int) (sl h : Int) n w en nx ot jo ow (pt lb) 0, leaveB lb (sl h : Int) sv (if ab then 5 else -1) b false, ptrB rb (pt d) 169, boxB xb #[vi e] 40] ∧ EV p sv b
 | .wEnter h k p, B => ∃ (n : Value) (w : Value) (ri : Value) (ot : Value) (jo : Value) (ow : Value) (le : Value) (eb : Nat) (gb : Nat) (cap : Nat) (sv : Value) (b : Bool), B = [writeB d (mv 116 d) (k : Int) (sl h : Int) n w (pt eb) ri ot jo ow le 0, enterB eb (sl h : Int) sv h (.slice (some ⟨gb, 0, none⟩) 1 cap) b false 0 0, boxB gb #[vi 2] 3] ∧ EV p sv b
 | .wSnap h k, B => ∃ (en : Value) (ri : Value) (ot : Value) (jo : Value) (ow : Value) (le : Value) (n : Value) (w : Value), B = [writeB d (mv 151 d) (k : Int) (sl h : Int) n w en ri ot jo ow le 0]
 | .wLook h k n, B => ∃ (en : Value) (jo : Value) (ow : Value) (le : Value) (w : Value) (ri : Value) (ot : Value), B = [writeB d (mv 188 d) (k : Int) (sl h : Int) (vu n) w en ri ot jo ow le 0]
 | .wRival h k n w j r, B => ∃ (en : Value) (jo : Value) (ow : Value) (le : Value) (rb : Nat) (f : Nat) (l : List Int) (len : Nat) (cap : Nat) (ot : Value), B = [writeB d (mv 238 d) (k : Int) (sl h : Int) (vu n) (vu w) en (.slice (some ⟨rb, f, none⟩) len cap) ot jo ow le 0, rowB rb l] ∧ RowV (j :: r) l f len cap
 | .wNumber h k n w j r, B => ∃ (en : Value) (jo : Value) (ow : Value) (le : Value) (rb : Nat) (f : Nat) (l : List Int) (len : Nat) (cap : Nat) (ot : Value), B = [writeB d (mv 262 d) (k : Int) (sl h : Int) (vu n) (vu w) en (.slice (some ⟨rb, f, none⟩) len cap) ot jo ow le 0, rowB rb l] ∧ RowV (j :: r) l f len cap
 | .wMark h k n w, B => ∃ (en : Value) (jo : Value) (ow : Value) (le : Value) (ri : Value) (ot : Value), B = [writeB d (mv 239 d) (k : Int) (sl h : Int) (vu n) (vu w) en ri ot jo ow le 0]
 | .wJoin h k n j r p, B => ∃ (rb : Nat) (f : Nat) (l : List Int) (len : Nat) (cap : Nat) (w : Value) (ri : Value) (en : Value) (le : Value) (ow : Value) (jb : Nat) (sv : Value) (jv : Value), B = [writeB d (mv 282 d) (k : Int) (sl h : Int) (vu n) w en ri (.slice (some ⟨rb, f, none⟩) len cap) (pt jb) ow le 0, joinB jb (j : Int) 0 (sl h : Int) sv jv n 0, rowB rb l] ∧ JV jb p sv jv ∧ RowV (j :: r) l f len cap
 | .wOwn h k n j r p, B => ∃ (rb : Nat) (f : Nat) (l : List Int) (len : Nat) (cap : Nat) (w : Value) (ri : Value) (en : Value) (le : Value) (jo : Value) (wb2 : Nat) (sv : Value) (b : Bool), B = [writeB d (mv 293 d) (k : Int) (sl h : Int) (vu n) w en ri (.slice (some ⟨rb, f, none⟩) len cap) jo (pt wb2) le 0, ownB wb2 (sl h : Int) 1 (j : Int) sv b false, rowB rb l] ∧ EV p sv b ∧ RowV (j :: r) l f len cap
 | .wLeave h k ab p e, B => ∃ (rb : Nat) (xb : Nat) (n : Value) (w : Value) (en : Value) (ri : Value) (ot : Value) (jo : Value) (ow : Value) (lb : Nat) (sv : Value) (b : Bool), B = [writeB d (.func (.func 280) #[] #[pt rb, pt xb]) (k : Int) (sl h : Int) n w en ri ot jo ow (pt lb) 0, leaveB lb (sl h : Int) sv (if ab then 5 else -1) b false, ptrB rb (pt d) 171, boxB xb #[vi e] 40] ∧ EV p sv b
 | .cEnter h p, B => ∃ (xb : Nat) (tb : Nat) (le : Value) (s' : Value) (w : Value) (aid : Value) (eb : Nat) (gb : Nat) (cap : Nat) (sv : Value) (b : Bool), B = [commitB d (.func (.func 152) #[] #[pt xb, pt tb]) (sl h : Int) (pt eb) le 0 0 0 s' w aid, enterB eb (sl h : Int) sv h (.slice (some ⟨gb, 0, none⟩) 1 cap) b false 0 0, boxB gb #[vi 2] 3, ptrB xb (pt d) 245, boxB tb #[mv 118 d] 119] ∧ EV p sv b
 | .cJudge h, B => ∃ (en : Value) (le : Value) (s : Value) (w : Value) (aid : Value), B = [commitB d (mv 118 d) (sl h : Int) en le 0 0 0 s w aid]
 | .cDoom h s, B => ∃ (en : Value) (le : Value) (w : Value) (aid : Value), B = [commitB d (mv 157 d) (sl h : Int) en le 0 0 0 (vu s) w aid]
 | .cPromise h s, B => ∃ (en : Value) (le : Value) (w : Value) (aid : Value), B = [commitB d (mv 155 d) (sl h : Int) en le 0 0 0 (vu s) w aid]
 | .cCount h, B => ∃ (en : Value) (le : Value) (s : Value) (w : Value) (aid : Value), B = [commitB d (mv 189 d) (sl h : Int) en le 0 0 0 s w aid]
 | .cNumber h w, B => ∃ (en : Value) (le : Value) (s : Value) (aid : Value), B = [commitB d (mv 213 d) (sl h : Int) en le 0 0 0 s (vu w) aid]
 | .cHelp h w p, B => ∃ (en : Value) (le : Value) (s' : Value) (wv : Value) (hb : Nat) (hs : Value) (hv : Value), B = [commitB d (mv 212 d) (sl h : Int) en le 0 0 0 s' wv (pt hb), helpB hb hs w hv] ∧ HV p hs hv
 | .cNote h w hw p, B => ∃ (en : Value) (le : Value) (s' : Value) (hb : Nat) (hs : Value) (hv : Value), B = [commitB d (mv 242 d) (sl h : Int) en le 0 0 0 s' (vu w) (pt hb), helpB hb hs hw hv] ∧ HV p hs hv
 | .cLeave h ab p a, B => ∃ (en : Value) (s' : Value) (w : Value) (aid : Value) (rb : Nat) (ab' : Nat) (lb : Nat) (sv : Value) (b : Bool), B = [commitB d (.func (.func 159) #[] #[pt rb, pt ab']) (sl h : Int) en (pt lb) 0 0 0 s' w aid, leaveB lb (sl h : Int) sv (if ab then 5 else -1) b false, ptrB rb (pt d) 245, boxB ab' #[vi a.e, vu a.h, vu a.n] 42] ∧ EV p sv b
 | .aEnter h p, B => ∃ (xb : Nat) (tb : Nat) (yb : Nat) (le : Value) (eb : Nat) (gb : Nat) (cap : Nat) (sv : Value) (b : Bool), B = [abortB d (.func (.func 152) #[] #[pt xb, pt tb]) (sl h : Int) (pt eb) le 0 0 0, enterB eb (sl h : Int) sv h (.slice (some ⟨gb, 0, none⟩) 1 cap) b false 0 0, boxB gb #[vi 2] 3, ptrB xb (pt d) 245, boxB tb #[(.func (.func 119) #[] #[pt yb])] 119, ptrB yb (pt d) 175] ∧ EV p sv b
 | .aThen h, B => ∃ (yb : Nat) (en : Value) (le : Value), B = [abortB d (.func (.func 119) #[] #[pt yb]) (sl h : Int) en le 0 0 0, ptrB yb (pt d) 175]
 | .aLeave h p, B => ∃ (en : Value) (rb : Nat) (ab' : Nat) (lb : Nat) (sv : Value) (b : Bool), B = [abortB d (.func (.func 159) #[] #[pt rb, pt ab']) (sl h : Int) en (pt lb) 0 0 0, leaveB lb (sl h : Int) sv 5 b false, ptrB rb (pt d) 245, boxB ab' #[vi 0, vu 0, vu 0] 42] ∧ EV p sv b
 | .sEnter h p, B => ∃ (nx : Value) (at' : Value) (w : Value) (r : Value) (n : Value) (ag : Value) (wa : Value) (le : Value) (eb : Nat) (gb : Nat) (cap : Nat) (sv : Value) (b : Bool), B = [sweepB c d (mv 121 d) nx (id : Int) (sl h : Int) ((h / 16 : Nat) : Int) at' false w r n (pt eb) ag wa le 0, enterB eb (sl h : Int) sv h (.slice (some ⟨gb, 0, none⟩) 4 cap) b false 0 0, boxB gb #[vi 4, vi 5, vi 6, vi 7] 3] ∧ EV p sv b
 | .sNumber h, B => ∃ (nx : Value) (at' : Value) (w : Value) (r : Value) (n : Value) (en : Value) (ag : Value) (wa : Value) (le : Value), B = [sweepB c d (mv 163 d) nx (id : Int) (sl h : Int) ((h / 16 : Nat) : Int) at' false w r n en ag wa le 0]
 | .sAged h j num sn, B => ∃ (nx : Value) (at' : Value) (w : Value) (r : Value) (n : Value) (en : Value) (wa : Value) (le : Value) (ab : Nat) (nb : Nat) (bb : Nat) (sb : Nat) (av : Value), B = [sweepB c d (mv 192 d) nx (id : Int) (sl h : Int) ((h / 16 : Nat) : Int) at' false w r n en (pt ab) wa le 0, ageB ab av (.func (.func 243) #[] #[pt nb, pt bb, pt sb]) (j : Int) num false, cntB nb (j : Int), cntB bb (sl h : Int), cntB sb c.S] ∧ av = mv (if sn then 266 else 244) ab
 | .sDie h, B => ∃ (nx : Value) (at' : Value) (w : Value) (r : Value) (n : Value) (en : Value) (ag : Value) (wa : Value) (le : Value), B = [sweepB c d (mv 164 d) nx (id : Int) (sl h : Int) ((h / 16 : Nat) : Int) at' false w r n en ag wa le 0]
 | .sDead h w, B => ∃ (nx : Value) (at' : Value) (r : Value) (n : Value) (en : Value) (ag : Value) (wa : Value) (le : Value), B = [sweepB c d (mv 194 d) nx (id : Int) (sl h : Int) ((h / 16 : Nat) : Int) at' false (vu w) r n en ag wa le 0]
 | .sTick h cl, B => ∃ (nx : Value) (at' : Value) (w : Value) (r : Value) (n : Value) (en : Value) (ag : Value) (wa : Value) (le : Value), B = [sweepB c d (mv 219 d) nx (id : Int) (sl h : Int) ((h / 16 : Nat) : Int) at' cl w r n en ag wa le 0]
 | .sNote h cl r, B => ∃ (nx : Value) (at' : Value) (w : Value) (n : Value) (en : Value) (ag : Value) (wa : Value) (le : Value), B = [sweepB c d (mv 247 d) nx (id : Int) (sl h : Int) ((h / 16 : Nat) : Int) at' cl w (vu r) n en ag wa le 0]
 | .sRetired h cl, B => ∃ (nx : Value) (at' : Value) (w : Value) (r : Value) (n : Value) (en : Value) (ag : Value) (wa : Value) (le : Value), B = [sweepB c d (mv 165 d) nx (id : Int) (sl h : Int) ((h / 16 : Nat) : Int) at' cl w r n en ag wa le 0]
 | .sGrace h cl j r, B => ∃ (nx : Value) (at' : Value) (w : Value) (n : Value) (en : Value) (ag : Value) (le : Value) (rv : Value) (wb2 : Nat), B = [sweepB c d (mv 221 d) nx (id : Int) (sl h : Int) ((h / 16 : Nat) : Int) at' cl w rv n en ag (pt wb2) le 0, graceB wb2 (id : Int) (j : Int) r false]
 | .sKeys h k, B => ∃ (w : Value) (r : Value) (n : Value) (en : Value) (ag : Value) (wa : Value) (le : Value) (nb : Nat) (bb : Nat) (sb : Nat), B = [sweepB c d (mv 270 d) (.func (.func 269) #[] #[pt nb, pt bb, pt sb]) (id : Int) (sl h : Int) ((h / 16 : Nat) : Int) (vi (k : Int)) false w r n en ag wa le 0, cntB nb (k : Int), cntB bb (-1), cntB sb c.K]
 | .sUnmark h k w, B => ∃ (r : Value) (n : Value) (en : Value) (ag : Value) (wa : Value) (le : Value) (nb : Nat) (bb : Nat) (sb : Nat), B = [sweepB c d (mv 284 d) (.func (.func 269) #[] #[pt nb, pt bb, pt sb]) (id : Int) (sl h : Int) ((h / 16 : Nat) : Int) (vi (k : Int)) false (vu w) r n en ag wa le 0, cntB nb (k : Int), cntB bb (-1), cntB sb c.K]
 | .sPast h, B => ∃ (nx : Value) (at' : Value) (w : Value) (r : Value) (n : Value) (en : Value) (ag : Value) (wa : Value) (le : Value), B = [sweepB c d (mv 271 d) nx (id : Int) (sl h : Int) ((h / 16 : Nat) : Int) at' false w r n en ag wa le 0]
 | .sOthers h j n, B => ∃ (w : Value) (r : Value) (en : Value) (ag : Value) (wa : Value) (le : Value) (nb : Nat) (bb : Nat) (sb : Nat), B = [sweepB c d (mv 294 d) (.func (.func 269) #[] #[pt nb, pt bb, pt sb]) (id : Int) (sl h : Int) ((h / 16 : Nat) : Int) (vi (j : Int)) false w r (vu n) en ag wa le 0, cntB nb (j : Int), cntB bb (sl h : Int), cntB sb c.S]
 | .sPart h j n w, B => ∃ (r : Value) (en : Value) (ag : Value) (wa : Value) (le : Value) (nb : Nat) (bb : Nat) (sb : Nat), B = [sweepB c d (mv 300 d) (.func (.func 269) #[] #[pt nb, pt bb, pt sb]) (id : Int) (sl h : Int) ((h / 16 : Nat) : Int) (vi (j : Int)) false (vu w) r (vu n) en ag wa le 0, cntB nb (j : Int), cntB bb (sl h : Int), cntB sb c.S]
 | .sClose h, B => ∃ (nx : Value) (at' : Value) (w : Value) (r : Value) (n : Value) (en : Value) (ag : Value) (wa : Value) (le : Value), B = [sweepB c d (mv 295 d) nx (id : Int) (sl h : Int) ((h / 16 : Nat) : Int) at' false w r n en ag wa le 0]
 | .sClosed h w, B => ∃ (nx : Value) (at' : Value) (r : Value) (n : Value) (en : Value) (ag : Value) (wa : Value) (le : Value), B = [sweepB c d (mv 302 d) nx (id : Int) (sl h : Int) ((h / 16 : Nat) : Int) at' false (vu w) r n en ag wa le 0]
 | .sNought h, B => ∃ (nx : Value) (at' : Value) (w : Value) (r : Value) (n : Value) (en : Value) (ag : Value) (wa : Value) (le : Value) (cl : Bool), B = [sweepB c d (mv 251 d) nx (id : Int) (sl h : Int) ((h / 16 : Nat) : Int) at' cl w r n en ag wa le 0]
 | .sFree h, B => ∃ (nx : Value) (at' : Value) (w : Value) (r : Value) (n : Value) (en : Value) (ag : Value) (wa : Value) (le : Value) (cl : Bool), B = [sweepB c d (mv 268 d) nx (id : Int) (sl h : Int) ((h / 16 : Nat) : Int) at' cl w r n en ag wa le 0]
 | .sLater h p, B => ∃ (nx : Value) (at' : Value) (w : Value) (r : Value) (n : Value) (en : Value) (ag : Value) (wa : Value) (cl : Bool) (rb : Nat) (lb : Nat) (sv : Value) (b : Bool), B = [sweepB c d (.func (.func 245) #[] #[pt rb]) nx (id : Int) (sl h : Int) ((h / 16 : Nat) : Int) at' cl w r n en ag wa (pt lb) 0, leaveB lb (sl h : Int) sv (-1) b false, ptrB rb (pt d) 177] ∧ EV p sv b
 | .done kd a, B => doneF c id d kd a B
def TForm (c : Cfg) (t id : Nat) : TSt → List Blk → Prop
 | .idle a, B => ∃ (pv dv : Value) (X : List Blk), B = thB c t (id : Int) .nilFunc pv dv (vi a.e) (vu a.h) (vu a.n) :: X
 | .pinLoad m, B => ∃ (pb pe d : Nat) (a1 a2 a3 : Value) (X : List Blk), B = thB c t (id : Int) (mv 59 t) (pt pb) (.iface m.kd.ty (pt d)) a1 a2 a3 :: pinB pb (mv 90 pb) (id : Int) pe :: X ∧ MForm c id d m X
 | .pinLay e m, B => ∃ (pb d : Nat) (a1 a2 a3 : Value) (X : List Blk), B = thB c t (id : Int) (mv 59 t) (pt pb) (.iface m.kd.ty (pt d)) a1 a2 a3 :: pinB pb (mv 123 pb) (id : Int) e :: X ∧ MForm c id d m X
 | .work m, B => ∃ (vp : Value) (d : Nat) (a1 a2 a3 : Value) (X : List Blk), B = thB c t (id : Int) (mv 124 t) vp (.iface m.kd.ty (pt d)) a1 a2 a3 :: X ∧ MForm c id d m X
 | .leave kd a, B => ∃ (vp : Value) (d : Nat) (a1 a2 a3 : Value) (X : List Blk), B = thB c t (id : Int) (mv 125 t) vp (.iface kd.ty (pt d)) a1 a2 a3 :: X ∧ doneF c id d kd a X
def WS (c : Cfg) (mb wb t id d : Nat) (vp a1 a2 a3 : Value) (M : Mm) (cnt : Nat) (m : Mach) (X : List Blk) : Prop :=
 Steps1 c mb wb t (thB c t (id : Int) (mv 124 t) vp (.iface m.kd.ty (pt d)) a1 a2 a3 :: X) M cnt fun hp' M' => (∃ B, List.Sublist B hp' ∧ TForm c t id (goesOn (mstep c id M m).2) B) ∧ M' = upd M (mstep c id M m).1.1 (mstep c id M m).1.2
def WSF (c : Cfg) (mb wb t id d : Nat) (vp a1 a2 a3 : Value) (M : Mm) (cnt : Nat) (m : Mach) (X0 X1 : List Blk) : Prop :=
 Steps1 c mb wb t (thB c t (id : Int) (mv 124 t) vp (.iface m.kd.ty (pt d)) a1 a2 a3 :: X0) M cnt fun hp' M' => (∃ B, List.Sublist B (hp' ++ X1) ∧ TForm c t id (goesOn (mstep c id M m).2) B) ∧ M' = upd M (mstep c id M m).1.1 (mstep c id M m).1.2
theorem Steps1.mono {c : Cfg} {mb wb t : Nat} {hp : List Blk} {M : Mm} {n : Nat} {R R' : List Blk → Mm → Prop} (h : Steps1 c mb wb t hp M n R) (hR : ∀ hp' M', R hp' M' → R' hp' M') : Steps1 c mb wb t hp M n R' := by
 intro L w0 w hr
 refine (h L w0 w hr).mono ?_
 rintro e w' ⟨he, hp', M', h1, h2⟩
 exact ⟨he, hp', M', hR _ _ h1, h2⟩
theorem u64 {n : Nat} (h : n < 18446744073709551616) : ((0 : Int) ≤ (n : Int)) ∧ (((n : Nat) : Int) < 18446744073709551616) := ⟨Int.natCast_nonneg _, by omega⟩
theorem tk_of {c : Cfg} {h : Nat} (k : tk c h) : 1 ≤ h % 16 ∧ h % 16 ≤ 12 ∧ (sl h : Int) < c.S ∧ h / 16 ≤ 1073741823 ∧ Ti.genOf (h : Int) = ((h / 16 : Nat) : Int) ∧ (h % 16 : Nat) = sl h + 1 := by
 have h1 := k.1
 unfold Ti.ofB Ti.slotB at h1
 simp at h1
 unfold sl Ti.genOf
 refine ⟨by omega, by omega, by omega, by omega, ?_, by omega⟩
 rw [if_neg (by omega)]
 omega
theorem wrap1 {n : Nat} (h : n < 4294967296) : IntKind.i64.wrap ((n : Int) + 1) = ((n + 1 : Nat) : Int) := by
 rw [show ((n + 1 : Nat) : Int) = (n : Int) + 1 by omega]
 simp [IntKind.wrap, IntKind.signed, IntKind.bits]
 omega
end Go.Proofs.YtfinmiakbpmjiaaGreat.Um
