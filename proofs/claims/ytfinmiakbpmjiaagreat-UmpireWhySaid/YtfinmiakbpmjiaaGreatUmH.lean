/-
  A Finish, state by state.
-/
import Derived.Test.YtfinmiakbpmjiaaGreatUmD
import Derived.Test.YtfinmiakbpmjiaaGreatSoE
import Derived.Test.YtfinmiakbpmjiaaGreatSoF
set_option linter.unusedSimpArgs false
set_option linter.unusedVariables false
namespace Go.Proofs.YtfinmiakbpmjiaaGreat.Um
open Go Go.RowKit Go.Proofs.YtfinmiakbpmjiaaGreat Go.Proofs.YtfinmiakbpmjiaaGreat.Ax
theorem wrapm1 {n : Nat} (h0 : n ≠ 0) (h : n < 18446744073709551616) : IntKind.u64.wrap ((n : Int) - 1) = ((n - 1 : Nat) : Int) := by
 rw [show ((n - 1 : Nat) : Int) = (n : Int) - 1 by omega]
 simp [IntKind.wrap, IntKind.signed, IntKind.bits]
 omega
variable {c : Cfg} {mb wb t id d : Nat} {vp a1 a2 a3 : Value} {M : Mm} {cnt : Nat} {X : List Blk} (hr : 1 ≤ c.T ∧ c.T ≤ 8 ∧ 1 ≤ c.S ∧ c.S ≤ 12 ∧ 1 ≤ c.K ∧ c.K ≤ 8 ∧ 0 ≤ c.L ∧ c.L ≤ 1073741823 ∧ 0 ≤ c.Q ∧ c.Q ≤ 1099511627775) (hM : MemOK c M) (hn : cnt < 1000000000) (hid : (id : Int) < c.T)
include hr hM hn hid
set_option linter.unusedSectionVars false
attribute [local simp] mstep estep hstep lstep jstep jjudge ostep ld cas oGoes rFound rNext wFound wNext wGoes sAges sGraces sGoes sKey sOther n0 seen4 U_iff Spot.ok mvlt others_eq MemOK.lt all A3
theorem w_sEnter_look {h : Nat} : W0 c mb wb t id d vp a1 a2 a3 M cnt X (.sEnter h .look) := by
 rintro ⟨b1, b2⟩ ⟨nx, at', w, r, n, ag, wa, le, eb, gb, cap, sv, b, rfl, rfl⟩
 obtain ⟨⟨kb, _⟩, _, _, k3, _, k5, _⟩ := tk2 b1
 by_cases h1 : gnOf (M (.status (sl h))) = h / 16
 ·by_cases h2 : stOf (M (.status (sl h))) = 0
  ·exact lv .s ⟨2, 0, 0⟩ zcG (fun _ => ⟨rfl, rfl, _, _, _, _, _, _, _, _, _, _, _, _, _, _, _, rfl⟩) (by simp [*]) (by simp [fo, hM.lt, *]) (fun _ => rfl) rfl
  ·by_cases h3 : stOf (M (.status (sl h))) = 1
   ·exact lv .s ⟨2, 0, 0⟩ zcH (fun _ => ⟨rfl, rfl, _, _, _, _, _, _, _, _, _, _, _, _, _, _, _, rfl⟩) (by simp [*]) (by simp [fo, hM.lt, *]) (fun _ => rfl) rfl
   ·by_cases h4 : bz (M (.status (sl h))) = true
    ·exact lv .s ⟨3, 0, 0⟩ zcI (fun _ => ⟨rfl, rfl, _, _, _, _, _, _, _, _, _, _, _, _, _, _, _, rfl⟩) (by simp [*]) (by simp [fo, hM.lt, *]; omega) (fun _ => rfl) rfl
    ·by_cases h5 : stOf (M (.status (sl h))) = 4
     ·exact lw (.sEnter h (.swap (M (.status (sl h))))) zcK (fun _ => ⟨_, _, _, _, _, _, _, _, _, _, _, _, _, rfl, ⟨rfl, rfl⟩⟩) (by simp [*]) (by simp [fo, hM.lt, *]) (fun _ => rfl) rfl
     ·by_cases h6 : stOf (M (.status (sl h))) = 5
      ·exact lw (.sEnter h (.swap (M (.status (sl h))))) zcL (fun _ => ⟨_, _, _, _, _, _, _, _, _, _, _, _, _, rfl, ⟨rfl, rfl⟩⟩) (by simp [*]) (by simp [fo, hM.lt, *]) (fun _ => rfl) rfl
      ·by_cases h7 : stOf (M (.status (sl h))) = 6
       ·exact lw (.sEnter h (.swap (M (.status (sl h))))) zcM (fun _ => ⟨_, _, _, _, _, _, _, _, _, _, _, _, _, rfl, ⟨rfl, rfl⟩⟩) (by simp [*]) (by simp [fo, hM.lt, *]) (fun _ => rfl) rfl
       ·by_cases h8 : stOf (M (.status (sl h))) = 7
        ·exact lw (.sEnter h (.swap (M (.status (sl h))))) zcN (fun _ => ⟨_, _, _, _, _, _, _, _, _, _, _, _, _, rfl, ⟨rfl, rfl⟩⟩) (by simp [*]) (by simp [fo, hM.lt, *]) (fun _ => rfl) rfl
        ·exact lv .s ⟨4, 0, 0⟩ zcJ (fun _ => ⟨rfl, rfl, _, _, _, _, _, _, _, _, _, _, _, _, _, _, _, rfl⟩) (by simp [*]) (by simp [fo, hM.lt, *]; omega) (fun _ => rfl) rfl
 ·exact lv .s ⟨2, 0, 0⟩ zcF (fun _ => ⟨rfl, rfl, _, _, _, _, _, _, _, _, _, _, _, _, _, _, _, rfl⟩) (by simp [*]) (by simp [fo, hM.lt, *]; omega) (fun _ => rfl) rfl
theorem w_sEnter_swap {h s : Nat} : W0 c mb wb t id d vp a1 a2 a3 M cnt X (.sEnter h (.swap s)) := by
 rintro ⟨b1, b2⟩ ⟨nx, at', w, r, n, ag, wa, le, eb, gb, cap, sv, b, rfl, ⟨rfl, rfl⟩⟩
 obtain ⟨⟨kb, _⟩, _, _, k3, _, k5, _⟩ := tk2 b1
 simp only [eOK, jOK] at b2
 by_cases h1 : M (.status (sl h)) = s
 ·by_cases h2 : stOf s = 4
  ·exact lw (.sNumber h) zcP (fun _ => ⟨_, _, _, _, _, _, _, _, _, rfl⟩) (by simp [*]) (by repeat' first | exact trivial | with_reducible apply ac | with_reducible apply aq | exact hn | exact Int.natCast_nonneg _ | exact Int.le_refl 0 | rfl | exact k3 | exact b2 | exact u64 (by first | exact hM.lt _ | assumption | exact mvlt _ (by assumption)) | ((try simp only [fo, kb, k5]) <;> first | exact k3 | exact b2 | rfl | (simp [h1, h2]; done) | (simp [h1, h2]; omega))) (fun _ => by simp only [fo]; rfl) rfl
  ·by_cases h3 : stOf s = 5
   ·exact lw (.sDie h) zcQ (fun _ => ⟨_, _, _, _, _, _, _, _, _, rfl⟩) (by simp [*]) (by repeat' first | exact trivial | with_reducible apply ac | with_reducible apply aq | exact hn | exact Int.natCast_nonneg _ | exact Int.le_refl 0 | rfl | exact k3 | exact b2 | exact u64 (by first | exact hM.lt _ | assumption | exact mvlt _ (by assumption)) | ((try simp only [fo, kb, k5]) <;> first | exact k3 | exact b2 | rfl | (simp [h1, h2, h3]; done) | (simp [h1, h2, h3]; omega))) (fun _ => by simp only [fo]; rfl) rfl
   ·by_cases h4 : stOf s = 6
    ·exact lw (.sRetired h false) zcR (fun _ => ⟨_, _, _, _, _, _, _, _, _, rfl⟩) (by simp [*]) (by repeat' first | exact trivial | with_reducible apply ac | with_reducible apply aq | exact hn | exact Int.natCast_nonneg _ | exact Int.le_refl 0 | rfl | exact k3 | exact b2 | exact u64 (by first | exact hM.lt _ | assumption | exact mvlt _ (by assumption)) | ((try simp only [fo, kb, k5]) <;> first | exact k3 | exact b2 | rfl | (simp [h1, h2, h3, h4]; done) | (simp [h1, h2, h3, h4]; omega))) (fun _ => by simp only [fo]; rfl) rfl
    ·exact lw (.sRetired h true) zcS (fun _ => ⟨_, _, _, _, _, _, _, _, _, rfl⟩) (by simp [*]) (by repeat' first | exact trivial | with_reducible apply ac | with_reducible apply aq | exact hn | exact Int.natCast_nonneg _ | exact Int.le_refl 0 | rfl | exact k3 | exact b2 | exact u64 (by first | exact hM.lt _ | assumption | exact mvlt _ (by assumption)) | ((try simp only [fo, kb, k5]) <;> first | exact k3 | exact b2 | rfl | (simp [h1, h2, h3, h4]; done) | (simp [h1, h2, h3, h4]; omega))) (fun _ => by simp only [fo]; rfl) rfl
 ·exact lw (.sEnter h .look) zcO (fun _ => ⟨_, _, _, _, _, _, _, _, _, _, _, _, _, rfl, rfl⟩) (by simp [*]) (by simp [fo, *]) (fun _ => by simp only [fo]; rfl) rfl
theorem w_sNumber {h : Nat} : W0 c mb wb t id d vp a1 a2 a3 M cnt X (.sNumber h) := by
 rintro b1 ⟨nx, at', w, r, n, en, ag, wa, le, rfl⟩
 simp only [mOK] at b1
 obtain ⟨⟨kb, _⟩, _, _, k3, _, k5, _⟩ := tk2 b1
 have hS : (0 : Int) < c.S := by omega
 have hK : (0 : Int) < c.K := by omega
 have hT : (0 : Int) < c.T := by omega
 by_cases h2 : sl h = 0
 ·by_cases h3 : (1 : Int) < c.S
  ·exact lw (.sAged h 1 (M (.number (sl h))) false) zcU (fun _ => ⟨_, _, _, _, _, _, _, _, _, _, _, _, _, rfl, rfl⟩) (by simp [*]) (by simp [fo, *]) (fun _ => rfl) rfl
  ·exact lg (.sDie h) zcV (fun _ => ⟨_, List.take_sublist 2 _, _, _, _, _, _, _, rfl, _, _, _, _, _, _, _, _, _, rfl⟩) (by simp [*]) (by simp [fo, *]) fun _ => rfl
 ·exact lw (.sAged h 0 (M (.number (sl h))) false) zcT (fun _ => ⟨_, _, _, _, _, _, _, _, _, _, _, _, _, rfl, rfl⟩) (by simp [*]) (by simp [fo, *]; omega) (fun _ => rfl) rfl
theorem w_sAged_look {h j num : Nat} : W0 c mb wb t id d vp a1 a2 a3 M cnt X (.sAged h j num false) := by
 rintro ⟨b1, b2⟩ ⟨nx, at', w, r, n, en, wa, le, ab, nb, bb, sb, av, rfl, rfl⟩
 obtain ⟨⟨kb, _⟩, _, _, k3, _, k5, _⟩ := tk2 b1
 have w1 : IntKind.i64.wrap ((j : Int) + 1) = ((j + 1 : Nat) : Int) := wrap1 (by omega)
 have w2 : IntKind.i64.wrap (((j + 1 : Nat) : Int) + 1) = ((j + 1 + 1 : Nat) : Int) := wrap1 (by omega)
 by_cases h1 : stOf (M (.status j)) = 1
 ·exact lw (.sLater h .look) zcW (fun _ => ⟨_, _, _, _, _, _, _, _, _, _, _, _, _, rfl, rfl⟩) (by simp [*]) (by simp [fo, hM.lt, *]) (fun _ => rfl) rfl
 ·by_cases h2 : stOf (M (.status j)) = 2
  ·exact lw (.sAged h j num true) zcX (fun _ => ⟨_, _, _, _, _, _, _, _, _, _, _, _, _, rfl, rfl⟩) (by simp [*]) (by simp [fo, hM.lt, *]) (fun _ => rfl) rfl
  ·by_cases h3 : stOf (M (.status j)) = 3
   ·exact lw (.sAged h j num true) zcY (fun _ => ⟨_, _, _, _, _, _, _, _, _, _, _, _, _, rfl, rfl⟩) (by simp [*]) (by simp [fo, hM.lt, *]) (fun _ => rfl) rfl
   ·by_cases h4 : j + 1 = sl h
    ·have hnx : nxN j (sl h) = j + 1 + 1 := by unfold nxN; rw [if_pos (by assumption)]
     by_cases h6 : ((j + 1 + 1 : Nat) : Int) < c.S
     ·exact lw (.sAged h (j + 1 + 1) num false) zd1 (fun gs => by (try simp only [fo, w1, w2, h1, h2, h3, hnx, h6]); exact ⟨_, _, _, _, _, _, _, _, _, _, _, _, _, rfl, rfl⟩) (by simp [*]; omega) (by repeat' first | exact trivial | with_reducible apply ac | with_reducible apply aq | exact hn | exact Int.natCast_nonneg _ | exact Int.le_refl 0 | rfl | exact k3 | exact b2 | exact u64 (by first | exact hM.lt _ | assumption | exact mvlt _ (by assumption)) | ((try simp only [fo, w1, w2]) <;> first | exact k3 | exact b2 | rfl | (simp [h1, h2, h3, h4, hnx, h6]; done) | (simp [h1, h2, h3, h4, hnx, h6]; omega))) (fun _ => rfl) rfl
     ·exact lg (.sDie h) zd2 (fun _ => ⟨_, List.take_sublist 2 _, _, _, _, _, _, _, rfl, _, _, _, _, _, _, _, _, _, rfl⟩) (by simp [*]; omega) (by repeat' first | exact trivial | with_reducible apply ac | with_reducible apply aq | exact hn | exact Int.natCast_nonneg _ | exact Int.le_refl 0 | rfl | exact k3 | exact b2 | exact u64 (by first | exact hM.lt _ | assumption | exact mvlt _ (by assumption)) | ((try simp only [fo, w1, w2]) <;> first | exact k3 | exact b2 | rfl | (simp [h1, h2, h3, h4, hnx, h6]; done) | (simp [h1, h2, h3, h4, hnx, h6]; omega))) fun _ => rfl
    ·have hnx : nxN j (sl h) = j + 1 := by unfold nxN; rw [if_neg (by assumption)]
     by_cases h6 : ((j + 1 : Nat) : Int) < c.S
     ·exact lw (.sAged h (j + 1) num false) zcZ (fun _ => by simp only [fo, *]; exact ⟨_, _, _, _, _, _, _, _, _, _, _, _, _, rfl, rfl⟩) (by simp [*]; omega) (by simp [fo, hM.lt, *]; omega) (fun _ => rfl) rfl
     ·exact lg (.sDie h) zd0 (fun _ => ⟨_, List.take_sublist 2 _, _, _, _, _, _, _, rfl, _, _, _, _, _, _, _, _, _, rfl⟩) (by simp [*]; omega) (by simp [fo, hM.lt, *]; omega) fun _ => rfl
theorem w_sAged_snap {h j num : Nat} : W0 c mb wb t id d vp a1 a2 a3 M cnt X (.sAged h j num true) := by
 rintro ⟨b1, b2⟩ ⟨nx, at', w, r, n, en, wa, le, ab, nb, bb, sb, av, rfl, rfl⟩
 obtain ⟨⟨kb, _⟩, _, _, k3, _, k5, _⟩ := tk2 b1
 have w1 : IntKind.i64.wrap ((j : Int) + 1) = ((j + 1 : Nat) : Int) := wrap1 (by omega)
 have w2 : IntKind.i64.wrap (((j + 1 : Nat) : Int) + 1) = ((j + 1 + 1 : Nat) : Int) := wrap1 (by omega)
 by_cases h1 : M (.snapshot j) < num
 ·exact lw (.sLater h .look) zd3 (fun _ => ⟨_, _, _, _, _, _, _, _, _, _, _, _, _, rfl, rfl⟩) (by simp [*]) (by simp [fo, *]) (fun _ => rfl) rfl
 ·by_cases h2 : j + 1 = sl h
  ·have hnx : nxN j (sl h) = j + 1 + 1 := by unfold nxN; rw [if_pos (by assumption)]
   by_cases h4 : ((j + 1 + 1 : Nat) : Int) < c.S
   ·exact lw (.sAged h (j + 1 + 1) num false) zd6 (fun gs => by (try simp only [fo, w1, w2, h1, hnx, h4]); exact ⟨_, _, _, _, _, _, _, _, _, _, _, _, _, rfl, rfl⟩) (by simp [*]; omega) (by repeat' first | exact trivial | with_reducible apply ac | with_reducible apply aq | exact hn | exact Int.natCast_nonneg _ | exact Int.le_refl 0 | rfl | exact k3 | exact b2 | exact u64 (by first | exact hM.lt _ | assumption | exact mvlt _ (by assumption)) | ((try simp only [fo, w1, w2]) <;> first | exact k3 | exact b2 | rfl | (simp [h1, h2, hnx, h4]; done) | (simp [h1, h2, hnx, h4]; omega))) (fun _ => rfl) rfl
   ·exact lg (.sDie h) zd7 (fun _ => ⟨_, List.take_sublist 2 _, _, _, _, _, _, _, rfl, _, _, _, _, _, _, _, _, _, rfl⟩) (by simp [*]; omega) (by repeat' first | exact trivial | with_reducible apply ac | with_reducible apply aq | exact hn | exact Int.natCast_nonneg _ | exact Int.le_refl 0 | rfl | exact k3 | exact b2 | exact u64 (by first | exact hM.lt _ | assumption | exact mvlt _ (by assumption)) | ((try simp only [fo, w1, w2]) <;> first | exact k3 | exact b2 | rfl | (simp [h1, h2, hnx, h4]; done) | (simp [h1, h2, hnx, h4]; omega))) fun _ => rfl
  ·have hnx : nxN j (sl h) = j + 1 := by unfold nxN; rw [if_neg (by assumption)]
   by_cases h4 : ((j + 1 : Nat) : Int) < c.S
   ·exact lw (.sAged h (j + 1) num false) zd4 (fun _ => by simp only [fo, *]; exact ⟨_, _, _, _, _, _, _, _, _, _, _, _, _, rfl, rfl⟩) (by simp [*]; omega) (by simp [fo, *]; omega) (fun _ => rfl) rfl
   ·exact lg (.sDie h) zd5 (fun _ => ⟨_, List.take_sublist 2 _, _, _, _, _, _, _, rfl, _, _, _, _, _, _, _, _, _, rfl⟩) (by simp [*]; omega) (by simp [fo, *]; omega) fun _ => rfl
theorem w_sDie {h : Nat} : W0 c mb wb t id d vp a1 a2 a3 M cnt X (.sDie h) := by
 rintro b1 ⟨nx, at', w, r, n, en, ag, wa, le, rfl⟩
 simp only [mOK] at b1
 obtain ⟨⟨kb, _⟩, _, _, k3, _, k5, _⟩ := tk2 b1
 exact lw (.sDead h (M (.status (sl h)))) zd8 (fun _ => ⟨_, _, _, _, _, _, _, _, rfl⟩) rfl (by simp [fo, *]) (fun _ => rfl) rfl
theorem w_sDead {h w : Nat} : W0 c mb wb t id d vp a1 a2 a3 M cnt X (.sDead h w) := by
 rintro ⟨b1, b2⟩ ⟨nx, at', r, n, en, ag, wa, le, rfl⟩
 obtain ⟨⟨kb, _⟩, _, _, k3, _, k5, _⟩ := tk2 b1
 by_cases h1 : M (.status (sl h)) = w
 ·exact lw (.sTick h false) zd9 (fun _ => ⟨_, _, _, _, _, _, _, _, _, rfl⟩) (by simp [*]) (by simp [fo, *]) (fun _ => rfl) rfl
 ·exact lw (.sDie h) zda (fun _ => ⟨_, _, _, _, _, _, _, _, _, rfl⟩) (by simp [*]) (by simp [fo, *]) (fun _ => rfl) rfl
theorem w_sTick {h : Nat} {cl : Bool} : W0 c mb wb t id d vp a1 a2 a3 M cnt X (.sTick h cl) := by
 rintro b1 ⟨nx, at', w, r, n, en, ag, wa, le, rfl⟩
 simp only [mOK] at b1
 obtain ⟨⟨kb, _⟩, _, _, k3, _, k5, _⟩ := tk2 b1
 exact lw (.sNote h cl (M .epoch)) zdb (fun _ => ⟨_, _, _, _, _, _, _, _, rfl⟩) rfl (by simp [fo, *]) (fun _ => rfl) rfl
theorem w_sNote {h r : Nat} {cl : Bool} : W0 c mb wb t id d vp a1 a2 a3 M cnt X (.sNote h cl r) := by
 rintro ⟨b1, b2⟩ ⟨nx, at', w, n, en, ag, wa, le, rfl⟩
 obtain ⟨⟨kb, _⟩, _, _, k3, _, k5, _⟩ := tk2 b1
 have hS : (0 : Int) < c.S := by omega
 have hK : (0 : Int) < c.K := by omega
 have hT : (0 : Int) < c.T := by omega
 by_cases h4 : id = 0
 ·by_cases h5 : (1 : Int) < c.T
  ·exact lw (.sGrace h cl 1 r) zdd (fun _ => ⟨_, _, _, _, _, _, _, _, _, rfl⟩) (by simp [*]) (by simp [fo, *]) (fun _ => rfl) rfl
  ·by_cases h6 : cl = true
   ·exact lw (.sNought h) zde (fun _ => ⟨_, _, _, _, _, _, _, _, _, _, rfl⟩) (by simp [*]) (by simp [fo, *]; omega) (fun _ => rfl) rfl
   ·exact lw (.sKeys h 0) zdf (fun _ => by simp only [fo, *]; exact ⟨_, _, _, _, _, _, _, _, _, _, rfl⟩) (by simp [*]) (by simp [fo, *]; omega) (fun _ => rfl) rfl
 ·exact lw (.sGrace h cl 0 r) zdc (fun _ => ⟨_, _, _, _, _, _, _, _, _, rfl⟩) (by simp [*]) (by simp [fo, *]; omega) (fun _ => rfl) rfl
theorem w_sRetired {h : Nat} {cl : Bool} : W0 c mb wb t id d vp a1 a2 a3 M cnt X (.sRetired h cl) := by
 rintro b1 ⟨nx, at', w, r, n, en, ag, wa, le, rfl⟩
 simp only [mOK] at b1
 obtain ⟨⟨kb, _⟩, _, _, k3, _, k5, _⟩ := tk2 b1
 have hS : (0 : Int) < c.S := by omega
 have hK : (0 : Int) < c.K := by omega
 have hT : (0 : Int) < c.T := by omega
 by_cases h4 : id = 0
 ·by_cases h5 : (1 : Int) < c.T
  ·exact lw (.sGrace h cl 1 (M (.retired (sl h)))) zdh (fun _ => ⟨_, _, _, _, _, _, _, _, _, rfl⟩) (by simp [*]) (by simp [fo, *]) (fun _ => rfl) rfl
  ·by_cases h6 : cl = true
   ·exact lw (.sNought h) zdi (fun _ => ⟨_, _, _, _, _, _, _, _, _, _, rfl⟩) (by simp [*]) (by simp [fo, *]; omega) (fun _ => rfl) rfl
   ·exact lw (.sKeys h 0) zdj (fun _ => by simp only [fo, *]; exact ⟨_, _, _, _, _, _, _, _, _, _, rfl⟩) (by simp [*]) (by simp [fo, *]; omega) (fun _ => rfl) rfl
 ·exact lw (.sGrace h cl 0 (M (.retired (sl h)))) zdg (fun _ => ⟨_, _, _, _, _, _, _, _, _, rfl⟩) (by simp [*]) (by simp [fo, *]; omega) (fun _ => rfl) rfl
theorem w_sGrace {h j r : Nat} {cl : Bool} : W0 c mb wb t id d vp a1 a2 a3 M cnt X (.sGrace h cl j r) := by
 rintro ⟨b1, b2, b3⟩ ⟨nx, at', w, n, en, ag, le, rv, wb2, rfl⟩
 obtain ⟨⟨kb, _⟩, _, _, k3, _, k5, _⟩ := tk2 b1
 have w1 : IntKind.i64.wrap ((j : Int) + 1) = ((j + 1 : Nat) : Int) := wrap1 (by omega)
 have w2 : IntKind.i64.wrap (((j + 1 : Nat) : Int) + 1) = ((j + 1 + 1 : Nat) : Int) := wrap1 (by omega)
 have hS : (0 : Int) < c.S := by omega
 have hK : (0 : Int) < c.K := by omega
 have hT : (0 : Int) < c.T := by omega
 by_cases h2 : M (.pin j) = 0
 ·by_cases h3 : j + 1 = id
  ·have hnx : nxN j id = j + 1 + 1 := by unfold nxN; rw [if_pos (by assumption)]
   by_cases h5 : ((j + 1 + 1 : Nat) : Int) < c.T
   ·exact lw (.sGrace h cl (j + 1 + 1) r) zds (fun gs => by (try simp only [fo, w1, w2, hK, h2, hnx, h5]); exact ⟨_, _, _, _, _, _, _, _, _, rfl⟩) (by simp [*]; omega) (by repeat' first | exact trivial | with_reducible apply ac | with_reducible apply aq | exact hn | exact Int.natCast_nonneg _ | exact Int.le_refl 0 | rfl | exact k3 | exact b2 | exact b3 | exact u64 (by first | exact hM.lt _ | assumption | exact mvlt _ (by assumption)) | ((try simp only [fo, w1, w2]) <;> first | exact k3 | exact b2 | exact b3 | rfl | (simp [hK, h2, h3, hnx, h5]; done) | (simp [hK, h2, h3, hnx, h5]; omega))) (fun _ => rfl) rfl
   ·by_cases h6 : cl = true
    ·exact lw (.sNought h) zdt (fun _ => ⟨_, _, _, _, _, _, _, _, _, _, rfl⟩) (by simp [*]; omega) (by repeat' first | exact trivial | with_reducible apply ac | with_reducible apply aq | exact hn | exact Int.natCast_nonneg _ | exact Int.le_refl 0 | rfl | exact k3 | exact b2 | exact b3 | exact u64 (by first | exact hM.lt _ | assumption | exact mvlt _ (by assumption)) | ((try simp only [fo, w1, w2]) <;> first | exact k3 | exact b2 | exact b3 | rfl | (simp [hK, h2, h3, hnx, h5, h6]; done) | (simp [hK, h2, h3, hnx, h5, h6]; omega))) (fun _ => rfl) rfl
    ·exact lw (.sKeys h 0) zdu (fun _ => by simp only [fo, *]; exact ⟨_, _, _, _, _, _, _, _, _, _, rfl⟩) (by simp [*]; omega) (by repeat' first | exact trivial | with_reducible apply ac | with_reducible apply aq | exact hn | exact Int.natCast_nonneg _ | exact Int.le_refl 0 | rfl | exact k3 | exact b2 | exact b3 | exact u64 (by first | exact hM.lt _ | assumption | exact mvlt _ (by assumption)) | ((try simp only [fo, w1, w2]) <;> first | exact k3 | exact b2 | exact b3 | rfl | (simp [hK, h2, h3, hnx, h5, h6]; done) | (simp [hK, h2, h3, hnx, h5, h6]; omega))) (fun _ => rfl) rfl
  ·have hnx : nxN j id = j + 1 := by unfold nxN; rw [if_neg (by assumption)]
   by_cases h5 : ((j + 1 : Nat) : Int) < c.T
   ·exact lw (.sGrace h cl (j + 1) r) zdl (fun _ => by simp only [fo, *]; exact ⟨_, _, _, _, _, _, _, _, _, rfl⟩) (by simp [*]; omega) (by simp [fo, *]; omega) (fun _ => rfl) rfl
   ·by_cases h6 : cl = true
    ·exact lw (.sNought h) zdm (fun _ => ⟨_, _, _, _, _, _, _, _, _, _, rfl⟩) (by simp [*]; omega) (by simp [fo, *]; omega) (fun _ => rfl) rfl
    ·exact lw (.sKeys h 0) zdn (fun _ => by simp only [fo, *]; exact ⟨_, _, _, _, _, _, _, _, _, _, rfl⟩) (by simp [*]; omega) (by simp [fo, *]; omega) (fun _ => rfl) rfl
 ·have wp : IntKind.u64.wrap (((M (.pin j) : Nat) : Int) - 1) = ((M (.pin j) - 1 : Nat) : Int) := wrapm1 (by omega) (hM.lt _)
  by_cases h3 : M (.pin j) - 1 ≤ r
  ·have wd : decide (((M (.pin j) - 1 : Nat) : Int) ≤ (r : Int)) = true := decide_eq_true (by omega)
   by_cases h5 : j + 1 = id
   ·exact lw (.sLater h .look) zdr (fun _ => ⟨_, _, _, _, _, _, _, _, _, _, _, _, _, rfl, rfl⟩) (by simp [*]) (by simp [fo, *]) (fun _ => rfl) rfl
   ·exact lw (.sLater h .look) zdk (fun _ => ⟨_, _, _, _, _, _, _, _, _, _, _, _, _, rfl, rfl⟩) (by simp [*]) (by simp [fo, *]; omega) (fun _ => rfl) rfl
  ·have wd : decide (((M (.pin j) - 1 : Nat) : Int) ≤ (r : Int)) = false := decide_eq_false (by omega)
   by_cases h5 : j + 1 = id
   ·have hnx : nxN j id = j + 1 + 1 := by unfold nxN; rw [if_pos (by assumption)]
    by_cases h7 : ((j + 1 + 1 : Nat) : Int) < c.T
    ·exact lw (.sGrace h cl (j + 1 + 1) r) zdv (fun gs => by (try simp only [fo, w1, w2, wp, wd, hK, h2, h3, wd, hnx, h7]); exact ⟨_, _, _, _, _, _, _, _, _, rfl⟩) (by simp [*]; omega) (by repeat' first | exact trivial | with_reducible apply ac | with_reducible apply aq | exact hn | exact Int.natCast_nonneg _ | exact Int.le_refl 0 | rfl | exact k3 | exact b2 | exact b3 | exact u64 (by first | exact hM.lt _ | assumption | exact mvlt _ (by assumption)) | ((try simp only [fo, w1, w2, wp, wd]) <;> first | exact k3 | exact b2 | exact b3 | rfl | (simp [hK, h2, h3, wd, h5, hnx, h7]; done) | (simp [hK, h2, h3, wd, h5, hnx, h7]; omega))) (fun _ => rfl) rfl
    ·by_cases h8 : cl = true
     ·exact lw (.sNought h) zdw (fun _ => ⟨_, _, _, _, _, _, _, _, _, _, rfl⟩) (by simp [*]; omega) (by repeat' first | exact trivial | with_reducible apply ac | with_reducible apply aq | exact hn | exact Int.natCast_nonneg _ | exact Int.le_refl 0 | rfl | exact k3 | exact b2 | exact b3 | exact u64 (by first | exact hM.lt _ | assumption | exact mvlt _ (by assumption)) | ((try simp only [fo, w1, w2, wp, wd]) <;> first | exact k3 | exact b2 | exact b3 | rfl | (simp [hK, h2, h3, wd, h5, hnx, h7, h8]; done) | (simp [hK, h2, h3, wd, h5, hnx, h7, h8]; omega))) (fun _ => rfl) rfl
     ·exact lw (.sKeys h 0) zdx (fun _ => by simp only [fo, *]; exact ⟨_, _, _, _, _, _, _, _, _, _, rfl⟩) (by simp [*]; omega) (by repeat' first | exact trivial | with_reducible apply ac | with_reducible apply aq | exact hn | exact Int.natCast_nonneg _ | exact Int.le_refl 0 | rfl | exact k3 | exact b2 | exact b3 | exact u64 (by first | exact hM.lt _ | assumption | exact mvlt _ (by assumption)) | ((try simp only [fo, w1, w2, wp, wd]) <;> first | exact k3 | exact b2 | exact b3 | rfl | (simp [hK, h2, h3, wd, h5, hnx, h7, h8]; done) | (simp [hK, h2, h3, wd, h5, hnx, h7, h8]; omega))) (fun _ => rfl) rfl
   ·have hnx : nxN j id = j + 1 := by unfold nxN; rw [if_neg (by assumption)]
    by_cases h7 : ((j + 1 : Nat) : Int) < c.T
    ·exact lw (.sGrace h cl (j + 1) r) zdo (fun _ => by simp only [fo, *]; exact ⟨_, _, _, _, _, _, _, _, _, rfl⟩) (by simp [*]; omega) (by simp [fo, *]; omega) (fun _ => rfl) rfl
    ·by_cases h8 : cl = true
     ·exact lw (.sNought h) zdp (fun _ => ⟨_, _, _, _, _, _, _, _, _, _, rfl⟩) (by simp [*]; omega) (by simp [fo, *]; omega) (fun _ => rfl) rfl
     ·exact lw (.sKeys h 0) zdq (fun _ => by simp only [fo, *]; exact ⟨_, _, _, _, _, _, _, _, _, _, rfl⟩) (by simp [*]; omega) (by simp [fo, *]; omega) (fun _ => rfl) rfl
theorem w_sKeys {h k : Nat} : W0 c mb wb t id d vp a1 a2 a3 M cnt X (.sKeys h k) := by
 rintro ⟨b1, b2⟩ ⟨w, r, n, en, ag, wa, le, nb, bb, sb, rfl⟩
 obtain ⟨⟨kb, _⟩, _, _, k3, _, k5, _⟩ := tk2 b1
 have w1 : IntKind.i64.wrap ((k : Int) + 1) = ((k + 1 : Nat) : Int) := wrap1 (by omega)
 have wn : (((k + 1 : Nat) : Int) == -1) = false := by simp; omega
 by_cases h1 : Ma.dropW (M (.key k)) (sl h : Int) = M (.key k)
 ·have hb1 : (((Ma.dropW (M (.key k)) (sl h : Int) : Nat) : Int) == ((M (.key k) : Nat) : Int)) = true := by simp; omega
  by_cases h4 : ((k + 1 : Nat) : Int) < c.K
  ·exact lw (.sKeys h (k + 1)) zdy (fun _ => by simp only [fo, *]; exact ⟨_, _, _, _, _, _, _, _, _, _, rfl⟩) (by simp [*]; omega) (by simp [fo, hM.lt, *]; omega) (fun _ => rfl) rfl
  ·exact lg (.sPast h) zdz (fun _ => ⟨_, List.take_sublist 2 _, _, _, _, _, _, _, rfl, _, _, _, _, _, _, _, _, _, rfl⟩) (by simp [*]; omega) (by simp [fo, hM.lt, *]; omega) fun _ => rfl
 ·have hb1 : (((Ma.dropW (M (.key k)) (sl h : Int) : Nat) : Int) == ((M (.key k) : Nat) : Int)) = false := by simp; omega
  exact lw (.sUnmark h k (M (.key k))) zdA (fun _ => ⟨_, _, _, _, _, _, _, _, _, rfl⟩) (by simp [*]) (by simp [fo, hM.lt, *]) (fun _ => rfl) rfl
theorem w_sUnmark {h k w : Nat} : W0 c mb wb t id d vp a1 a2 a3 M cnt X (.sUnmark h k w) := by
 rintro ⟨b1, b2, b3, b4⟩ ⟨r, n, en, ag, wa, le, nb, bb, sb, rfl⟩
 obtain ⟨⟨kb, _⟩, _, _, k3, _, k5, _⟩ := tk2 b1
 have w1 : IntKind.i64.wrap ((k : Int) + 1) = ((k + 1 : Nat) : Int) := wrap1 (by omega)
 have wn : (((k + 1 : Nat) : Int) == -1) = false := by simp; omega
 by_cases h1 : M (.key k) = w
 ·by_cases h2 : ((k + 1 : Nat) : Int) < c.K
  ·exact lw (.sKeys h (k + 1)) zdB (fun _ => by simp only [fo, *]; exact ⟨_, _, _, _, _, _, _, _, _, _, rfl⟩) (by simp [*]; omega) (by simp [fo, *]; omega) (fun _ => rfl) rfl
  ·exact lg (.sPast h) zdC (fun _ => ⟨_, List.take_sublist 2 _, _, _, _, _, _, _, rfl, _, _, _, _, _, _, _, _, _, rfl⟩) (by simp [*]; omega) (by simp [fo, *]; omega) fun _ => rfl
 ·exact lw (.sKeys h k) zdD (fun _ => ⟨_, _, _, _, _, _, _, _, _, _, rfl⟩) (by simp [*]) (by simp [fo, *]) (fun _ => rfl) rfl
theorem w_sPast {h : Nat} : W0 c mb wb t id d vp a1 a2 a3 M cnt X (.sPast h) := by
 rintro b1 ⟨nx, at', w, r, n, en, ag, wa, le, rfl⟩
 simp only [mOK] at b1
 obtain ⟨⟨kb, _⟩, _, _, k3, _, k5, _⟩ := tk2 b1
 have hS : (0 : Int) < c.S := by omega
 have hK : (0 : Int) < c.K := by omega
 have hT : (0 : Int) < c.T := by omega
 by_cases h2 : sl h = 0
 ·by_cases h3 : (1 : Int) < c.S
  ·exact lw (.sOthers h 1 (M (.number (sl h)))) zdF (fun _ => ⟨_, _, _, _, _, _, _, _, _, rfl⟩) (by simp [*]) (by simp [fo, *]) (fun _ => rfl) rfl
  ·exact lg (.sClose h) zdG (fun _ => ⟨_, List.take_sublist 2 _, _, _, _, _, _, _, rfl, _, _, _, _, _, _, _, _, _, rfl⟩) (by simp [*]) (by simp [fo, *]) fun _ => rfl
 ·exact lw (.sOthers h 0 (M (.number (sl h)))) zdE (fun _ => ⟨_, _, _, _, _, _, _, _, _, rfl⟩) (by simp [*]) (by simp [fo, *]; omega) (fun _ => rfl) rfl
theorem w_sOthers {h j n : Nat} : W0 c mb wb t id d vp a1 a2 a3 M cnt X (.sOthers h j n) := by
 rintro ⟨b1, b2, b3⟩ ⟨w, r, en, ag, wa, le, nb, bb, sb, rfl⟩
 obtain ⟨⟨kb, _⟩, _, _, k3, _, k5, _⟩ := tk2 b1
 have w1 : IntKind.i64.wrap ((j : Int) + 1) = ((j + 1 : Nat) : Int) := wrap1 (by omega)
 have w2 : IntKind.i64.wrap (((j + 1 : Nat) : Int) + 1) = ((j + 1 + 1 : Nat) : Int) := wrap1 (by omega)
 by_cases h1 : St.dropW (M (.status j)) (sl h : Int) (nzb n) = M (.status j)
 ·have hb1 : (((St.dropW (M (.status j)) (sl h : Int) (nzb n) : Nat) : Int) == ((M (.status j) : Nat) : Int)) = true := by simp; omega
  by_cases h3 : j + 1 = sl h
  ·have hnx : nxN j (sl h) = j + 1 + 1 := by unfold nxN; rw [if_pos (by assumption)]
   by_cases h5 : ((j + 1 + 1 : Nat) : Int) < c.S
   ·exact lw (.sOthers h (j + 1 + 1) n) zdJ (fun gs => by (try simp only [fo, w1, w2, nz_f, h1, hb1, hnx, h5]); exact ⟨_, _, _, _, _, _, _, _, _, rfl⟩) (by simp [*]; omega) (by repeat' first | exact trivial | with_reducible apply ac | with_reducible apply aq | exact hn | exact Int.natCast_nonneg _ | exact Int.le_refl 0 | rfl | exact k3 | exact b2 | exact b3 | exact u64 (by first | exact hM.lt _ | assumption | exact mvlt _ (by assumption)) | ((try simp only [fo, w1, w2, nz_f]) <;> first | exact k3 | exact b2 | exact b3 | rfl | (simp [h1, hb1, h3, hnx, h5]; done) | (simp [h1, hb1, h3, hnx, h5]; omega))) (fun _ => rfl) rfl
   ·exact lg (.sClose h) zdK (fun _ => ⟨_, List.take_sublist 2 _, _, _, _, _, _, _, rfl, _, _, _, _, _, _, _, _, _, rfl⟩) (by simp [*]; omega) (by repeat' first | exact trivial | with_reducible apply ac | with_reducible apply aq | exact hn | exact Int.natCast_nonneg _ | exact Int.le_refl 0 | rfl | exact k3 | exact b2 | exact b3 | exact u64 (by first | exact hM.lt _ | assumption | exact mvlt _ (by assumption)) | ((try simp only [fo, w1, w2, nz_f]) <;> first | exact k3 | exact b2 | exact b3 | rfl | (simp [h1, hb1, h3, hnx, h5]; done) | (simp [h1, hb1, h3, hnx, h5]; omega))) fun _ => rfl
  ·have hnx : nxN j (sl h) = j + 1 := by unfold nxN; rw [if_neg (by assumption)]
   by_cases h5 : ((j + 1 : Nat) : Int) < c.S
   ·exact lw (.sOthers h (j + 1) n) zdH (fun _ => by simp only [fo, *]; exact ⟨_, _, _, _, _, _, _, _, _, rfl⟩) (by simp [*]; omega) (by repeat' first | exact trivial | with_reducible apply ac | with_reducible apply aq | exact hn | exact Int.natCast_nonneg _ | exact Int.le_refl 0 | rfl | exact k3 | exact b2 | exact b3 | exact u64 (by first | exact hM.lt _ | assumption | exact mvlt _ (by assumption)) | ((try simp only [fo, w1, w2, nz_f]) <;> first | exact k3 | exact b2 | exact b3 | rfl | (simp [h1, hb1, h3, hnx, h5]; done) | (simp [h1, hb1, h3, hnx, h5]; omega))) (fun _ => rfl) rfl
   ·exact lg (.sClose h) zdI (fun _ => ⟨_, List.take_sublist 2 _, _, _, _, _, _, _, rfl, _, _, _, _, _, _, _, _, _, rfl⟩) (by simp [*]; omega) (by repeat' first | exact trivial | with_reducible apply ac | with_reducible apply aq | exact hn | exact Int.natCast_nonneg _ | exact Int.le_refl 0 | rfl | exact k3 | exact b2 | exact b3 | exact u64 (by first | exact hM.lt _ | assumption | exact mvlt _ (by assumption)) | ((try simp only [fo, w1, w2, nz_f]) <;> first | exact k3 | exact b2 | exact b3 | rfl | (simp [h1, hb1, h3, hnx, h5]; done) | (simp [h1, hb1, h3, hnx, h5]; omega))) fun _ => rfl
 ·have hb1 : (((St.dropW (M (.status j)) (sl h : Int) (nzb n) : Nat) : Int) == ((M (.status j) : Nat) : Int)) = false := by simp; omega
  exact lw (.sPart h j n (M (.status j))) zdL (fun _ => ⟨_, _, _, _, _, _, _, _, rfl⟩) (by simp [*]) (by repeat' first | exact trivial | with_reducible apply ac | with_reducible apply aq | exact hn | exact Int.natCast_nonneg _ | exact Int.le_refl 0 | rfl | exact k3 | exact b2 | exact b3 | exact u64 (by first | exact hM.lt _ | assumption | exact mvlt _ (by assumption)) | ((try simp only [fo, w1, w2, nz_f]) <;> first | exact k3 | exact b2 | exact b3 | rfl | (simp [h1, hb1]; done) | (simp [h1, hb1]; omega))) (fun _ => rfl) rfl
theorem w_sPart {h j n w : Nat} : W0 c mb wb t id d vp a1 a2 a3 M cnt X (.sPart h j n w) := by
 rintro ⟨b1, b2, b3, b4⟩ ⟨r, en, ag, wa, le, nb, bb, sb, rfl⟩
 obtain ⟨⟨kb, _⟩, _, _, k3, _, k5, _⟩ := tk2 b1
 have w1 : IntKind.i64.wrap ((j : Int) + 1) = ((j + 1 : Nat) : Int) := wrap1 (by omega)
 have w2 : IntKind.i64.wrap (((j + 1 : Nat) : Int) + 1) = ((j + 1 + 1 : Nat) : Int) := wrap1 (by omega)
 by_cases h1 : M (.status j) = w
 ·by_cases h2 : j + 1 = sl h
  ·have hnx : nxN j (sl h) = j + 1 + 1 := by unfold nxN; rw [if_pos (by assumption)]
   by_cases h4 : ((j + 1 + 1 : Nat) : Int) < c.S
   ·exact lw (.sOthers h (j + 1 + 1) n) zdO (fun gs => by (try simp only [fo, w1, w2, nz_f, h1, hnx, h4]); exact ⟨_, _, _, _, _, _, _, _, _, rfl⟩) (by simp [*]; omega) (by repeat' first | exact trivial | with_reducible apply ac | with_reducible apply aq | exact hn | exact Int.natCast_nonneg _ | exact Int.le_refl 0 | rfl | exact k3 | exact b2 | exact b3 | exact b4 | exact u64 (by first | exact hM.lt _ | assumption | exact mvlt _ (by assumption)) | ((try simp only [fo, w1, w2, nz_f]) <;> first | exact k3 | exact b2 | exact b3 | exact b4 | rfl | (simp [h1, h2, hnx, h4]; done) | (simp [h1, h2, hnx, h4]; omega))) (fun _ => by first | rfl | (simp only [fo, w1, w2, nz_f]; rfl)) rfl
   ·exact lg (.sClose h) zdP (fun _ => ⟨_, List.take_sublist 2 _, _, _, _, _, _, _, rfl, _, _, _, _, _, _, _, _, _, rfl⟩) (by simp [*]; omega) (by repeat' first | exact trivial | with_reducible apply ac | with_reducible apply aq | exact hn | exact Int.natCast_nonneg _ | exact Int.le_refl 0 | rfl | exact k3 | exact b2 | exact b3 | exact b4 | exact u64 (by first | exact hM.lt _ | assumption | exact mvlt _ (by assumption)) | ((try simp only [fo, w1, w2, nz_f]) <;> first | exact k3 | exact b2 | exact b3 | exact b4 | rfl | (simp [h1, h2, hnx, h4]; done) | (simp [h1, h2, hnx, h4]; omega))) fun _ => by first | rfl | (simp only [fo, w1, w2, nz_f]; rfl)
  ·have hnx : nxN j (sl h) = j + 1 := by unfold nxN; rw [if_neg (by assumption)]
   by_cases h4 : ((j + 1 : Nat) : Int) < c.S
   ·exact lw (.sOthers h (j + 1) n) zdM (fun _ => by simp only [fo, *]; exact ⟨_, _, _, _, _, _, _, _, _, rfl⟩) (by simp [*]; omega) (by simp [fo, *]; omega) (fun _ => by first | rfl | (simp only [fo, w1, w2, nz_f]; rfl)) rfl
   ·exact lg (.sClose h) zdN (fun _ => ⟨_, List.take_sublist 2 _, _, _, _, _, _, _, rfl, _, _, _, _, _, _, _, _, _, rfl⟩) (by simp [*]; omega) (by simp [fo, *]; omega) fun _ => by first | rfl | (simp only [fo, w1, w2, nz_f]; rfl)
 ·exact lw (.sOthers h j n) zdQ (fun _ => ⟨_, _, _, _, _, _, _, _, _, rfl⟩) (by simp [*]) (by simp [fo, *]) (fun _ => by first | rfl | (simp only [fo, w1, w2, nz_f]; rfl)) rfl
theorem w_sClose {h : Nat} : W0 c mb wb t id d vp a1 a2 a3 M cnt X (.sClose h) := by
 rintro b1 ⟨nx, at', w, r, n, en, ag, wa, le, rfl⟩
 simp only [mOK] at b1
 obtain ⟨⟨kb, _⟩, _, _, k3, _, k5, _⟩ := tk2 b1
 exact lw (.sClosed h (M (.status (sl h)))) zdR (fun _ => ⟨_, _, _, _, _, _, _, _, rfl⟩) rfl (by simp [fo, *]) (fun _ => rfl) rfl
theorem w_sClosed {h w : Nat} : W0 c mb wb t id d vp a1 a2 a3 M cnt X (.sClosed h w) := by
 rintro ⟨b1, b2⟩ ⟨nx, at', r, n, en, ag, wa, le, rfl⟩
 obtain ⟨⟨kb, _⟩, _, _, k3, _, k5, _⟩ := tk2 b1
 by_cases h1 : M (.status (sl h)) = w
 ·exact lw (.sTick h true) zdS (fun _ => ⟨_, _, _, _, _, _, _, _, _, rfl⟩) (by simp [*]) (by simp [fo, *]) (fun _ => rfl) rfl
 ·exact lw (.sClose h) zdT (fun _ => ⟨_, _, _, _, _, _, _, _, _, rfl⟩) (by simp [*]) (by simp [fo, *]) (fun _ => rfl) rfl
theorem w_sNought {h : Nat} : W0 c mb wb t id d vp a1 a2 a3 M cnt X (.sNought h) := by
 rintro b1 ⟨nx, at', w, r, n, en, ag, wa, le, cl, rfl⟩
 simp only [mOK] at b1
 obtain ⟨⟨kb, _⟩, _, _, k3, _, k5, _⟩ := tk2 b1
 exact lw (.sFree h) zdU (fun _ => ⟨_, _, _, _, _, _, _, _, _, _, rfl⟩) rfl (by simp [fo, *]) (fun _ => rfl) rfl
theorem w_sFree {h : Nat} : W0 c mb wb t id d vp a1 a2 a3 M cnt X (.sFree h) := by
 rintro b1 ⟨nx, at', w, r, n, en, ag, wa, le, cl, rfl⟩
 simp only [mOK] at b1
 obtain ⟨⟨kb, _⟩, _, _, k3, _, k5, _⟩ := tk2 b1
 have wg : IntKind.i64.wrap (((h / 16 : Nat) : Int) + 1) = ((h / 16 + 1 : Nat) : Int) := wrap1 (by omega)
 exact lv .s ⟨0, 0, 0⟩ zdV (fun _ => ⟨rfl, rfl, _, _, _, _, _, _, _, _, _, _, _, _, _, _, _, rfl⟩) rfl (by simp only [all, A3, fo, *]; simp [hM.lt, *]; omega) (fun _ => by simp only [fo, *]; rfl) rfl
theorem w_sLater_stay_look {h : Nat} : W0 c mb wb t id d vp a1 a2 a3 M cnt X (.sLater h .look) := by
 rintro ⟨b1, b2⟩ ⟨nx, at', w, r, n, en, ag, wa, cl, rb, lb, sv, b, rfl, rfl⟩
 obtain ⟨⟨kb, _⟩, _, _, k3, _, k5, _⟩ := tk2 b1
 exact lw (.sLater h (.swap (M (.status (sl h))))) zdW (fun _ => ⟨_, _, _, _, _, _, _, _, _, _, _, _, _, rfl, ⟨rfl, rfl⟩⟩) rfl (by simp [fo, *]) (fun _ => rfl) rfl
theorem w_sLater_stay_swap {h s : Nat} : W0 c mb wb t id d vp a1 a2 a3 M cnt X (.sLater h (.swap s)) := by
 rintro ⟨b1, b2⟩ ⟨nx, at', w, r, n, en, ag, wa, cl, rb, lb, sv, b, rfl, ⟨rfl, rfl⟩⟩
 obtain ⟨⟨kb, _⟩, _, _, k3, _, k5, _⟩ := tk2 b1
 simp only [eOK, jOK] at b2
 by_cases h1 : M (.status (sl h)) = s
 ·exact lv .s ⟨9, 0, 0⟩ zdX (fun _ => ⟨rfl, rfl, _, _, _, _, _, _, _, _, _, _, _, _, _, _, _, rfl⟩) (by simp [*]) (by simp [fo, *]) (fun _ => by simp only [fo]; rfl) rfl
 ·exact lw (.sLater h .look) zdY (fun _ => by simp only [fo, *]; exact ⟨_, _, _, _, _, _, _, _, _, _, _, _, _, rfl, rfl⟩) (by simp [*]) (by simp [fo, *]) (fun _ => by simp only [fo]; rfl) rfl
end Go.Proofs.YtfinmiakbpmjiaaGreat.Um
