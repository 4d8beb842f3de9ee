/-
  A Commit and an Abort, state by state.
-/
import Derived.Test.YtfinmiakbpmjiaaGreatUmD
import Derived.Test.YtfinmiakbpmjiaaGreatSoD
set_option linter.unusedSimpArgs false
set_option linter.unusedVariables false
namespace Go.Proofs.YtfinmiakbpmjiaaGreat.Um
open Go Go.RowKit Go.Proofs.YtfinmiakbpmjiaaGreat Go.Proofs.YtfinmiakbpmjiaaGreat.Ax
theorem wrapu1 {n : Nat} (h : n < 18446744073709551615) : IntKind.u64.wrap ((n : Int) + 1) = ((n + 1 : Nat) : Int) := by
 rw [show ((n + 1 : Nat) : Int) = (n : Int) + 1 by omega]
 simp [IntKind.wrap, IntKind.signed, IntKind.bits]
 omega
variable {c : Cfg} {mb wb t id d : Nat} {vp a1 a2 a3 : Value} {M : Mm} {cnt : Nat} {X : List Blk} (hr : 1 ≤ c.T ∧ c.T ≤ 8 ∧ 1 ≤ c.S ∧ c.S ≤ 12 ∧ 1 ≤ c.K ∧ c.K ≤ 8 ∧ 0 ≤ c.L ∧ c.L ≤ 1073741823 ∧ 0 ≤ c.Q ∧ c.Q ≤ 1099511627775) (hM : MemOK c M) (hn : cnt < 1000000000) (hid : (id : Int) < c.T)
include hr hM hn hid
set_option linter.unusedSectionVars false
attribute [local simp] mstep estep hstep lstep jstep jjudge ostep ld cas oGoes rFound rNext wFound wNext wGoes sAges sGraces sGoes sKey sOther n0 seen4 U_iff Spot.ok mvlt others_eq MemOK.lt all A3
theorem w_cEnter_look {h : Nat} : W0 c mb wb t id d vp a1 a2 a3 M cnt X (.cEnter h .look) := by
 rintro ⟨b1, b2⟩ ⟨xb, tb, le, s', w, aid, eb, gb, cap, sv, b, rfl, rfl⟩
 obtain ⟨⟨kb, _⟩, _, _, k3, _, k5, _⟩ := tk2 b1
 by_cases h1 : gnOf (M (.status (sl h))) = h / 16
 ·by_cases h2 : stOf (M (.status (sl h))) = 0
  ·exact lv .c ⟨2, 0, 0⟩ zbS (fun _ => ⟨_, _, _, _, _, _, _, rfl⟩) (by simp [*]) (by simp [fo, hM.lt, *]) (fun _ => rfl) rfl
  ·by_cases h3 : stOf (M (.status (sl h))) = 1
   ·exact lv .c ⟨2, 0, 0⟩ zbT (fun _ => ⟨_, _, _, _, _, _, _, rfl⟩) (by simp [*]) (by simp [fo, hM.lt, *]) (fun _ => rfl) rfl
   ·by_cases h4 : bz (M (.status (sl h))) = true
    ·exact lv .c ⟨3, 0, 0⟩ zbU (fun _ => ⟨_, _, _, _, _, _, _, rfl⟩) (by simp [*]) (by simp [fo, hM.lt, *]; omega) (fun _ => rfl) rfl
    ·by_cases h5 : stOf (M (.status (sl h))) = 2
     ·exact lw (.cEnter h (.swap (M (.status (sl h))))) zbW (fun _ => ⟨_, _, _, _, _, _, _, _, _, _, _, rfl, ⟨rfl, rfl⟩⟩) (by simp [*]) (by simp [fo, hM.lt, *]) (fun _ => rfl) rfl
     ·exact lv .c ⟨4, 0, 0⟩ zbV (fun _ => ⟨_, _, _, _, _, _, _, rfl⟩) (by simp [*]) (by simp [fo, hM.lt, *]; omega) (fun _ => rfl) rfl
 ·exact lv .c ⟨2, 0, 0⟩ zbR (fun _ => ⟨_, _, _, _, _, _, _, rfl⟩) (by simp [*]) (by simp [fo, hM.lt, *]; omega) (fun _ => rfl) rfl
theorem w_cEnter_swap {h s : Nat} : W0 c mb wb t id d vp a1 a2 a3 M cnt X (.cEnter h (.swap s)) := by
 rintro ⟨b1, b2⟩ ⟨xb, tb, le, s', w, aid, eb, gb, cap, sv, b, rfl, ⟨rfl, rfl⟩⟩
 obtain ⟨⟨kb, _⟩, _, _, k3, _, k5, _⟩ := tk2 b1
 simp only [eOK, jOK] at b2
 by_cases h1 : M (.status (sl h)) = s
 ·exact lw (.cJudge h) zbY (fun _ => ⟨_, _, _, _, _, rfl⟩) (by simp [*]) (by simp [fo, *]) (fun _ => by simp only [fo]; rfl) rfl
 ·exact lw (.cEnter h .look) zbX (fun _ => ⟨_, _, _, _, _, _, _, _, _, _, _, rfl, rfl⟩) (by simp [*]) (by simp [fo, *]) (fun _ => by simp only [fo]; rfl) rfl
theorem w_cJudge {h : Nat} : W0 c mb wb t id d vp a1 a2 a3 M cnt X (.cJudge h) := by
 rintro b1 ⟨en, le, s, w, aid, rfl⟩
 simp only [mOK] at b1
 obtain ⟨⟨kb, _⟩, _, _, k3, _, k5, _⟩ := tk2 b1
 by_cases h1 : St.anyW (M (.status (sl h))) 0 = true
 ·by_cases h2 : St.anyW (M (.status (sl h))) 1 = true
  ·exact lw (.cDoom h (M (.status (sl h)))) zc1 (fun _ => ⟨_, _, _, _, rfl⟩) (by simp [*]) (by simp [fo, hM.lt, *]) (fun _ => rfl) rfl
  ·exact lw (.cPromise h (M (.status (sl h)))) zc0 (fun _ => ⟨_, _, _, _, rfl⟩) (by simp [*]) (by simp [fo, hM.lt, *]) (fun _ => rfl) rfl
 ·exact lw (.cPromise h (M (.status (sl h)))) zbZ (fun _ => ⟨_, _, _, _, rfl⟩) (by simp [*]) (by simp [fo, hM.lt, *]) (fun _ => rfl) rfl
theorem w_cDoom {h s : Nat} : W0 c mb wb t id d vp a1 a2 a3 M cnt X (.cDoom h s) := by
 rintro ⟨b1, b2⟩ ⟨en, le, w, aid, rfl⟩
 obtain ⟨⟨kb, _⟩, _, _, k3, _, k5, _⟩ := tk2 b1
 by_cases h1 : M (.status (sl h)) = s
 ·exact lv .c ⟨7, 0, 0⟩ zc2 (fun _ => ⟨_, _, _, _, _, _, _, rfl⟩) (by simp [*]) (by simp [fo, *]) (fun _ => rfl) rfl
 ·exact lw (.cJudge h) zc3 (fun _ => ⟨_, _, _, _, _, rfl⟩) (by simp [*]) (by simp [fo, *]) (fun _ => rfl) rfl
theorem w_cPromise {h s : Nat} : W0 c mb wb t id d vp a1 a2 a3 M cnt X (.cPromise h s) := by
 rintro ⟨b1, b2⟩ ⟨en, le, w, aid, rfl⟩
 obtain ⟨⟨kb, _⟩, _, _, k3, _, k5, _⟩ := tk2 b1
 by_cases h1 : M (.status (sl h)) = s
 ·exact lw (.cCount h) zc4 (fun _ => ⟨_, _, _, _, _, rfl⟩) (by simp [*]) (by simp [fo, *]) (fun _ => rfl) rfl
 ·exact lw (.cJudge h) zc5 (fun _ => ⟨_, _, _, _, _, rfl⟩) (by simp [*]) (by simp [fo, *]) (fun _ => rfl) rfl
theorem w_cCount {h : Nat} : W0 c mb wb t id d vp a1 a2 a3 M cnt X (.cCount h) := by
 rintro b1 ⟨en, le, s, w, aid, rfl⟩
 simp only [mOK] at b1
 obtain ⟨⟨kb, _⟩, _, _, k3, _, k5, _⟩ := tk2 b1
 by_cases h1 : 1 ≤ M .tally % 16
 ·exact lw (.cHelp h (M .tally) .number) zc6 (fun _ => ⟨_, _, _, _, _, _, _, rfl, rfl⟩) (by simp [*]) (by simp [fo, hM.lt, *]; omega) (fun _ => rfl) rfl
 ·by_cases h2 : c.Q ≤ ((M .tally / 16 : Nat) : Int)
  ·exact lw (.cLeave h true .look ⟨6, 0, 0⟩) zc7 (fun _ => ⟨_, _, _, _, _, _, _, _, _, rfl, rfl⟩) (by simp [*]; omega) (by simp [fo, hM.lt, *]; omega) (fun _ => rfl) rfl
  ·have hnb : Ta.nextB (M .tally : Int) (sl h : Int) = true := (Ta.next_yes ⟨by omega, by omega, by omega, by omega⟩).1
   exact lw (.cNumber h (M .tally)) zc8 (fun _ => ⟨_, _, _, _, rfl⟩) (by simp [*]; omega) (by simp [fo, *]; omega) (fun _ => rfl) rfl
theorem w_cHelp_number {h w : Nat} : W0 c mb wb t id d vp a1 a2 a3 M cnt X (.cHelp h w .number) := by
 rintro ⟨b1, b2⟩ ⟨en, le, s', wv, hb, hs, hv, rfl, rfl⟩
 obtain ⟨⟨kb, _⟩, _, _, k3, _, k5, _⟩ := tk2 b1
 have hp1 := pend (w := w) b2.1
 have hp2 : ((w % 16 - 1 : Nat) : Int) < c.S := by have := b2.1; have := b2.2.1; omega
 have hp0 : 1 ≤ w % 16 := b2.1
 have hp3 : w < 18446744073709551616 := b2.2.2.1
 exact lw (.cHelp h w .look) zc9 (fun _ => ⟨_, _, _, _, _, _, _, rfl, rfl⟩) rfl (by simp [fo, *]; omega) (fun _ => by simp only [fo, *]; rfl) rfl
theorem w_cHelp_look {h w : Nat} : W0 c mb wb t id d vp a1 a2 a3 M cnt X (.cHelp h w .look) := by
 rintro ⟨b1, b2⟩ ⟨en, le, s', wv, hb, hs, hv, rfl, rfl⟩
 obtain ⟨⟨kb, _⟩, _, _, k3, _, k5, _⟩ := tk2 b1
 have hp1 := pend (w := w) b2.1
 have hp2 : ((w % 16 - 1 : Nat) : Int) < c.S := by have := b2.1; have := b2.2.1; omega
 have hp0 : 1 ≤ w % 16 := b2.1
 have hp3 : w < 18446744073709551616 := b2.2.2.1
 by_cases h1 : stOf (M (.status (w % 16 - 1))) = 3
 ·exact lw (.cHelp h w (.lay (M (.status (w % 16 - 1))))) zca (fun _ => by simp only [fo, *]; exact ⟨_, _, _, _, _, _, _, rfl, ⟨rfl, rfl⟩⟩) (by simp [*]) (by simp only [all, A3, fo, *]; simp [hM.lt, *]; omega) (fun _ => by simp only [fo, *]; rfl) rfl
 ·exact lw (.cHelp h w .settle) zcb (fun _ => ⟨_, _, _, _, _, _, _, rfl, rfl⟩) (by simp [*]) (by simp only [all, A3, fo, *]; simp [hM.lt, *]; omega) (fun _ => by simp only [fo, *]; rfl) rfl
theorem w_cHelp_lay {h w s : Nat} : W0 c mb wb t id d vp a1 a2 a3 M cnt X (.cHelp h w (.lay s)) := by
 rintro ⟨b1, b2⟩ ⟨en, le, s', wv, hb, hs, hv, rfl, ⟨rfl, rfl⟩⟩
 obtain ⟨⟨kb, _⟩, _, _, k3, _, k5, _⟩ := tk2 b1
 have hp1 := pend (w := w) b2.1
 have hp2 : ((w % 16 - 1 : Nat) : Int) < c.S := by have := b2.1; have := b2.2.1; omega
 have hp0 : 1 ≤ w % 16 := b2.1
 have hp3 : w < 18446744073709551616 := b2.2.2.1
 have hp4 : s < 18446744073709551616 := b2.2.2.2 s rfl
 by_cases h1 : M (.status (w % 16 - 1)) = s
 ·exact lw (.cHelp h w .settle) zcc (fun _ => ⟨_, _, _, _, _, _, _, rfl, rfl⟩) (by simp [*]) (by simp only [all, A3, fo, *]; simp [hM.lt, *]; omega) (fun _ => by first | rfl | (simp only [fo, hp1]; rfl)) rfl
 ·exact lw (.cHelp h w .look) zcd (fun _ => ⟨_, _, _, _, _, _, _, rfl, rfl⟩) (by simp [*]) (by simp only [all, A3, fo, *]; simp [hM.lt, *]; omega) (fun _ => by first | rfl | (simp only [fo, hp1]; rfl)) rfl
theorem w_cHelp_settle {h w : Nat} : W0 c mb wb t id d vp a1 a2 a3 M cnt X (.cHelp h w .settle) := by
 rintro ⟨b1, b2⟩ ⟨en, le, s', wv, hb, hs, hv, rfl, rfl⟩
 obtain ⟨⟨kb, _⟩, _, _, k3, _, k5, _⟩ := tk2 b1
 have hp1 := pend (w := w) b2.1
 have hp2 : ((w % 16 - 1 : Nat) : Int) < c.S := by have := b2.1; have := b2.2.1; omega
 have hp0 : 1 ≤ w % 16 := b2.1
 have hp3 : w < 18446744073709551616 := b2.2.2.1
 exact lw (.cCount h) zce (fun _ => ⟨_, _, _, _, _, rfl⟩) rfl (by simp [fo, *]; omega) (fun _ => rfl) rfl
theorem w_cNumber {h w : Nat} : W0 c mb wb t id d vp a1 a2 a3 M cnt X (.cNumber h w) := by
 rintro ⟨b1, b2, b3, b4⟩ ⟨en, le, s, aid, rfl⟩
 obtain ⟨⟨kb, _⟩, _, _, k3, _, k5, _⟩ := tk2 b1
 have hnx : nextN w (sl h : Int) = 16 * (w / 16 + 1) + (sl h + 1) := by
  unfold nextN
  rw [(Ta.next_yes (x := (w : Int)) (p := (sl h : Int)) ⟨by omega, by omega, by omega, by omega⟩).2]
  omega
 have hnl : nextN w (sl h : Int) < 18446744073709551616 := by rw [hnx]; omega
 have hnp : 1 ≤ nextN w (sl h : Int) % 16 := by rw [hnx]; omega
 by_cases h1 : M .tally = w
 ·exact lw (.cNote h w (nextN w (sl h : Int)) .number) zcf (fun _ => ⟨_, _, _, _, _, _, rfl, rfl⟩) (by simp [*]) (by simp [fo, *]; omega) (fun _ => rfl) rfl
 ·exact lw (.cCount h) zcg (fun _ => ⟨_, _, _, _, _, rfl⟩) (by simp [*]) (by simp [fo, *]; omega) (fun _ => rfl) rfl
theorem w_cNote_number {h w hw : Nat} : W0 c mb wb t id d vp a1 a2 a3 M cnt X (.cNote h w hw .number) := by
 rintro ⟨b1, b2, b3⟩ ⟨en, le, s', hb, hs, hv, rfl, rfl⟩
 obtain ⟨⟨kb, _⟩, _, _, k3, _, k5, _⟩ := tk2 b1
 have hp1 := pend (w := hw) b3.1
 have hp2 : ((hw % 16 - 1 : Nat) : Int) < c.S := by have := b3.1; have := b3.2.1; omega
 have hp0 : 1 ≤ hw % 16 := b3.1
 have hp3 : hw < 18446744073709551616 := b3.2.2.1
 have wu : IntKind.u64.wrap (((w / 16 : Nat) : Int) + 1) = ((w / 16 + 1 : Nat) : Int) := wrapu1 (by omega)
 exact lw (.cNote h w hw .look) zch (fun _ => ⟨_, _, _, _, _, _, rfl, rfl⟩) rfl (by simp [fo, *]; omega) (fun _ => by simp only [fo, *]; rfl) rfl
theorem w_cNote_look {h w hw : Nat} : W0 c mb wb t id d vp a1 a2 a3 M cnt X (.cNote h w hw .look) := by
 rintro ⟨b1, b2, b3⟩ ⟨en, le, s', hb, hs, hv, rfl, rfl⟩
 obtain ⟨⟨kb, _⟩, _, _, k3, _, k5, _⟩ := tk2 b1
 have hp1 := pend (w := hw) b3.1
 have hp2 : ((hw % 16 - 1 : Nat) : Int) < c.S := by have := b3.1; have := b3.2.1; omega
 have hp0 : 1 ≤ hw % 16 := b3.1
 have hp3 : hw < 18446744073709551616 := b3.2.2.1
 have wu : IntKind.u64.wrap (((w / 16 : Nat) : Int) + 1) = ((w / 16 + 1 : Nat) : Int) := wrapu1 (by omega)
 by_cases h1 : stOf (M (.status (hw % 16 - 1))) = 3
 ·exact lw (.cNote h w hw (.lay (M (.status (hw % 16 - 1))))) zci (fun _ => by simp only [fo, *]; exact ⟨_, _, _, _, _, _, rfl, ⟨rfl, rfl⟩⟩) (by simp [*]) (by simp only [all, A3, fo, *]; simp [hM.lt, *]; omega) (fun _ => by simp only [fo, *]; rfl) rfl
 ·exact lw (.cNote h w hw .settle) zcj (fun _ => ⟨_, _, _, _, _, _, rfl, rfl⟩) (by simp [*]) (by simp only [all, A3, fo, *]; simp [hM.lt, *]; omega) (fun _ => by simp only [fo, *]; rfl) rfl
theorem w_cNote_lay {h w hw s : Nat} : W0 c mb wb t id d vp a1 a2 a3 M cnt X (.cNote h w hw (.lay s)) := by
 rintro ⟨b1, b2, b3⟩ ⟨en, le, s', hb, hs, hv, rfl, ⟨rfl, rfl⟩⟩
 obtain ⟨⟨kb, _⟩, _, _, k3, _, k5, _⟩ := tk2 b1
 have hp1 := pend (w := hw) b3.1
 have hp2 : ((hw % 16 - 1 : Nat) : Int) < c.S := by have := b3.1; have := b3.2.1; omega
 have hp0 : 1 ≤ hw % 16 := b3.1
 have hp3 : hw < 18446744073709551616 := b3.2.2.1
 have wu : IntKind.u64.wrap (((w / 16 : Nat) : Int) + 1) = ((w / 16 + 1 : Nat) : Int) := wrapu1 (by omega)
 have hp4 : s < 18446744073709551616 := b3.2.2.2 s rfl
 by_cases h1 : M (.status (hw % 16 - 1)) = s
 ·exact lw (.cNote h w hw .settle) zck (fun _ => ⟨_, _, _, _, _, _, rfl, rfl⟩) (by simp [*]) (by simp only [all, A3, fo, *]; simp [hM.lt, *]; omega) (fun _ => by first | rfl | (simp only [fo, hp1, wu]; rfl)) rfl
 ·exact lw (.cNote h w hw .look) zcl (fun _ => ⟨_, _, _, _, _, _, rfl, rfl⟩) (by simp [*]) (by simp only [all, A3, fo, *]; simp [hM.lt, *]; omega) (fun _ => by first | rfl | (simp only [fo, hp1, wu]; rfl)) rfl
theorem w_cNote_settle {h w hw : Nat} : W0 c mb wb t id d vp a1 a2 a3 M cnt X (.cNote h w hw .settle) := by
 rintro ⟨b1, b2, b3⟩ ⟨en, le, s', hb, hs, hv, rfl, rfl⟩
 obtain ⟨⟨kb, _⟩, _, _, k3, _, k5, _⟩ := tk2 b1
 have hp1 := pend (w := hw) b3.1
 have hp2 : ((hw % 16 - 1 : Nat) : Int) < c.S := by have := b3.1; have := b3.2.1; omega
 have hp0 : 1 ≤ hw % 16 := b3.1
 have hp3 : hw < 18446744073709551616 := b3.2.2.1
 have wu : IntKind.u64.wrap (((w / 16 : Nat) : Int) + 1) = ((w / 16 + 1 : Nat) : Int) := wrapu1 (by omega)
 exact lw (.cLeave h false .look ⟨0, 0, w / 16 + 1⟩) zcm (fun _ => by simp only [fo, *]; exact ⟨_, _, _, _, _, _, _, _, _, rfl, rfl⟩) rfl (by simp [fo, *]; omega) (fun _ => rfl) rfl
theorem w_cLeave_stay_look {h : Nat} {a : Ans} : W0 c mb wb t id d vp a1 a2 a3 M cnt X (.cLeave h false .look a) := by
 rintro ⟨b1, b2⟩ ⟨en, s', w, aid, rb, ab', lb, sv, b, rfl, rfl⟩
 obtain ⟨⟨kb, _⟩, _, _, k3, _, k5, _⟩ := tk2 b1
 exact lw (.cLeave h false (.swap (M (.status (sl h)))) a) zcn (fun _ => ⟨_, _, _, _, _, _, _, _, _, rfl, ⟨rfl, rfl⟩⟩) rfl (by simp [fo, *]) (fun _ => rfl) rfl
theorem w_cLeave_stay_swap {h s : Nat} {a : Ans} : W0 c mb wb t id d vp a1 a2 a3 M cnt X (.cLeave h false (.swap s) a) := by
 rintro ⟨b1, b2⟩ ⟨en, s', w, aid, rb, ab', lb, sv, b, rfl, ⟨rfl, rfl⟩⟩
 obtain ⟨⟨kb, _⟩, _, _, k3, _, k5, _⟩ := tk2 b1
 simp only [eOK, jOK] at b2
 by_cases h1 : M (.status (sl h)) = s
 ·exact lv .c a zco (fun _ => ⟨_, _, _, _, _, _, _, rfl⟩) (by simp [*]) (by simp [fo, *]) (fun _ => by simp only [fo]; rfl) rfl
 ·exact lw (.cLeave h false .look a) zcp (fun _ => by simp only [fo, *]; exact ⟨_, _, _, _, _, _, _, _, _, rfl, rfl⟩) (by simp [*]) (by simp [fo, *]) (fun _ => by simp only [fo]; rfl) rfl
theorem w_cLeave_abort_look {h : Nat} {a : Ans} : W0 c mb wb t id d vp a1 a2 a3 M cnt X (.cLeave h true .look a) := by
 rintro ⟨b1, b2⟩ ⟨en, s', w, aid, rb, ab', lb, sv, b, rfl, rfl⟩
 obtain ⟨⟨kb, _⟩, _, _, k3, _, k5, _⟩ := tk2 b1
 exact lw (.cLeave h true (.swap (M (.status (sl h)))) a) zcq (fun _ => ⟨_, _, _, _, _, _, _, _, _, rfl, ⟨rfl, rfl⟩⟩) rfl (by simp [fo, *]) (fun _ => rfl) rfl
theorem w_cLeave_abort_swap {h s : Nat} {a : Ans} : W0 c mb wb t id d vp a1 a2 a3 M cnt X (.cLeave h true (.swap s) a) := by
 rintro ⟨b1, b2⟩ ⟨en, s', w, aid, rb, ab', lb, sv, b, rfl, ⟨rfl, rfl⟩⟩
 obtain ⟨⟨kb, _⟩, _, _, k3, _, k5, _⟩ := tk2 b1
 simp only [eOK, jOK] at b2
 by_cases h1 : M (.status (sl h)) = s
 ·exact lv .c a zcr (fun _ => ⟨_, _, _, _, _, _, _, rfl⟩) (by simp [*]) (by simp [fo, *]) (fun _ => rfl) rfl
 ·exact lw (.cLeave h true .look a) zcs (fun _ => by simp only [fo, *]; exact ⟨_, _, _, _, _, _, _, _, _, rfl, rfl⟩) (by simp [*]) (by simp [fo, *]) (fun _ => rfl) rfl
theorem w_aEnter_look {h : Nat} : W1 c mb wb t id d vp a1 a2 a3 M cnt X (.aEnter h .look) := by
 rintro ⟨b1, b2⟩ ⟨xb, tb, yb, le, eb, gb, cap, sv, b, rfl, rfl⟩
 obtain ⟨⟨kb, _⟩, _, _, k3, _, k5, _⟩ := tk2 b1
 refine ⟨[_, _, _, _, _], [_], rfl, ?_⟩
 by_cases h1 : gnOf (M (.status (sl h))) = h / 16
 ·by_cases h2 : stOf (M (.status (sl h))) = 0
  ·exact lgF (.done .a ⟨2, 0, 0⟩) zcu (fun _ => ⟨_, .refl _, _, _, _, _, _, _, rfl, _, _, _, _, rfl⟩) (by simp [*]) (by simp [fo, hM.lt, *]) fun _ => rfl
  ·by_cases h3 : stOf (M (.status (sl h))) = 1
   ·exact lgF (.done .a ⟨2, 0, 0⟩) zcv (fun _ => ⟨_, .refl _, _, _, _, _, _, _, rfl, _, _, _, _, rfl⟩) (by simp [*]) (by simp [fo, hM.lt, *]) fun _ => rfl
   ·by_cases h4 : bz (M (.status (sl h))) = true
    ·exact lgF (.done .a ⟨3, 0, 0⟩) zcw (fun _ => ⟨_, .refl _, _, _, _, _, _, _, rfl, _, _, _, _, rfl⟩) (by simp [*]) (by simp [fo, hM.lt, *]; omega) fun _ => rfl
    ·by_cases h5 : stOf (M (.status (sl h))) = 2
     ·exact lgF (.aEnter h (.swap (M (.status (sl h))))) zcy (fun _ => ⟨_, .refl _, _, _, _, _, _, _, rfl, ⟨_, _, _, _, _, _, _, _, _, rfl, ⟨rfl, rfl⟩⟩⟩) (by simp [*]) (by simp [fo, hM.lt, *]) fun _ => rfl
     ·exact lgF (.done .a ⟨4, 0, 0⟩) zcx (fun _ => ⟨_, .refl _, _, _, _, _, _, _, rfl, _, _, _, _, rfl⟩) (by simp [*]) (by simp [fo, hM.lt, *]; omega) fun _ => rfl
 ·exact lgF (.done .a ⟨2, 0, 0⟩) zct (fun _ => ⟨_, .refl _, _, _, _, _, _, _, rfl, _, _, _, _, rfl⟩) (by simp [*]) (by simp [fo, hM.lt, *]; omega) fun _ => rfl
theorem w_aEnter_swap {h s : Nat} : W1 c mb wb t id d vp a1 a2 a3 M cnt X (.aEnter h (.swap s)) := by
 rintro ⟨b1, b2⟩ ⟨xb, tb, yb, le, eb, gb, cap, sv, b, rfl, ⟨rfl, rfl⟩⟩
 obtain ⟨⟨kb, _⟩, _, _, k3, _, k5, _⟩ := tk2 b1
 simp only [eOK, jOK] at b2
 refine ⟨[_, _, _, _, _], [_], rfl, ?_⟩
 by_cases h1 : M (.status (sl h)) = s
 ·exact lgF (.aThen h) zcA (fun _ => ⟨_, .refl _, _, _, _, _, _, _, rfl, _, _, _, rfl⟩) (by simp [*]) (by simp [fo, *]) fun _ => by simp only [fo]; rfl
 ·exact lgF (.aEnter h .look) zcz (fun _ => ⟨_, .refl _, _, _, _, _, _, _, rfl, _, _, _, _, _, _, _, _, _, rfl, rfl⟩) (by simp [*]) (by simp [fo, *]) fun _ => by simp only [fo]; rfl
theorem w_aThen {h : Nat} : W0 c mb wb t id d vp a1 a2 a3 M cnt X (.aThen h) := by
 rintro b1 ⟨yb, en, le, rfl⟩
 simp only [mOK] at b1
 obtain ⟨⟨kb, _⟩, _, _, k3, _, k5, _⟩ := tk2 b1
 exact lw (.aLeave h (.swap (M (.status (sl h))))) zcB (fun _ => ⟨_, _, _, _, _, _, rfl, ⟨rfl, rfl⟩⟩) rfl (by simp [fo, *]) (fun _ => rfl) rfl
theorem w_aLeave_abort_look {h : Nat} : W0 c mb wb t id d vp a1 a2 a3 M cnt X (.aLeave h .look) := by
 rintro ⟨b1, b2⟩ ⟨en, rb, ab', lb, sv, b, rfl, rfl⟩
 obtain ⟨⟨kb, _⟩, _, _, k3, _, k5, _⟩ := tk2 b1
 exact lw (.aLeave h (.swap (M (.status (sl h))))) zcC (fun _ => ⟨_, _, _, _, _, _, rfl, ⟨rfl, rfl⟩⟩) rfl (by simp [fo, *]) (fun _ => rfl) rfl
theorem w_aLeave_abort_swap {h s : Nat} : W0 c mb wb t id d vp a1 a2 a3 M cnt X (.aLeave h (.swap s)) := by
 rintro ⟨b1, b2⟩ ⟨en, rb, ab', lb, sv, b, rfl, ⟨rfl, rfl⟩⟩
 obtain ⟨⟨kb, _⟩, _, _, k3, _, k5, _⟩ := tk2 b1
 simp only [eOK, jOK] at b2
 by_cases h1 : M (.status (sl h)) = s
 ·exact lv .a ⟨0, 0, 0⟩ zcD (fun _ => ⟨_, _, _, _, rfl⟩) (by simp [*]) (by simp [fo, *]) (fun _ => rfl) rfl
 ·exact lw (.aLeave h .look) zcE (fun _ => by simp only [fo, *]; exact ⟨_, _, _, _, _, _, rfl, rfl⟩) (by simp [*]) (by simp [fo, *]) (fun _ => rfl) rfl
end Go.Proofs.YtfinmiakbpmjiaaGreat.Um
