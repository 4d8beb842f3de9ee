/-
  A Read, state by state.
-/
import Derived.Test.YtfinmiakbpmjiaaGreatUmD
import Derived.Test.YtfinmiakbpmjiaaGreatSoB
set_option linter.unusedSimpArgs false
set_option linter.unusedVariables false
namespace Go.Proofs.YtfinmiakbpmjiaaGreat.Um
open Go Go.RowKit Go.Proofs.YtfinmiakbpmjiaaGreat Go.Proofs.YtfinmiakbpmjiaaGreat.Ax
variable {c : Cfg} {mb wb t id d : Nat} {vp a1 a2 a3 : Value} {M : Mm} {cnt : Nat} {X : List Blk} (hr : 1 ≤ c.T ∧ c.T ≤ 8 ∧ 1 ≤ c.S ∧ c.S ≤ 12 ∧ 1 ≤ c.K ∧ c.K ≤ 8 ∧ 0 ≤ c.L ∧ c.L ≤ 1073741823 ∧ 0 ≤ c.Q ∧ c.Q ≤ 1099511627775) (hM : MemOK c M) (hn : cnt < 1000000000) (hid : (id : Int) < c.T)
include hr hM hn hid
set_option linter.unusedSectionVars false
attribute [local simp] mstep estep hstep lstep jstep jjudge ostep ld cas oGoes rFound rNext wFound wNext wGoes sAges sGraces sGoes sKey sOther n0 seen4 U_iff Spot.ok mvlt others_eq MemOK.lt all A3
theorem w_rEnter_look {h k : Nat} : W0 c mb wb t id d vp a1 a2 a3 M cnt X (.rEnter h k .look) := by
 rintro ⟨b1, b2, b3⟩ ⟨n, w, nx, ot, jo, ow, le, eb, gb, cap, sv, b, rfl, rfl⟩
 obtain ⟨⟨kb, _⟩, _, _, k3, _, k5, _⟩ := tk2 b1
 by_cases h1 : gnOf (M (.status (sl h))) = h / 16
 ·by_cases h2 : stOf (M (.status (sl h))) = 0
  ·exact lv .r ⟨2, 0, 0⟩ zaj (fun _ => ⟨rfl, rfl, _, _, _, _, _, _, _, _, _, _, _, rfl⟩) (by simp [*]) (by simp [fo, hM.lt, *]) (fun _ => rfl) rfl
  ·by_cases h3 : stOf (M (.status (sl h))) = 1
   ·exact lv .r ⟨2, 0, 0⟩ zak (fun _ => ⟨rfl, rfl, _, _, _, _, _, _, _, _, _, _, _, rfl⟩) (by simp [*]) (by simp [fo, hM.lt, *]) (fun _ => rfl) rfl
   ·by_cases h4 : bz (M (.status (sl h))) = true
    ·exact lv .r ⟨3, 0, 0⟩ zal (fun _ => ⟨rfl, rfl, _, _, _, _, _, _, _, _, _, _, _, rfl⟩) (by simp [*]) (by simp [fo, hM.lt, *]; omega) (fun _ => rfl) rfl
    ·by_cases h5 : stOf (M (.status (sl h))) = 2
     ·exact lw (.rEnter h k (.swap (M (.status (sl h))))) zan (fun _ => ⟨_, _, _, _, _, _, _, _, _, _, _, _, rfl, ⟨rfl, rfl⟩⟩) (by simp [*]) (by simp [fo, hM.lt, *]) (fun _ => rfl) rfl
     ·exact lv .r ⟨4, 0, 0⟩ zam (fun _ => ⟨rfl, rfl, _, _, _, _, _, _, _, _, _, _, _, rfl⟩) (by simp [*]) (by simp [fo, hM.lt, *]; omega) (fun _ => rfl) rfl
 ·exact lv .r ⟨2, 0, 0⟩ zai (fun _ => ⟨rfl, rfl, _, _, _, _, _, _, _, _, _, _, _, rfl⟩) (by simp [*]) (by simp [fo, hM.lt, *]; omega) (fun _ => rfl) rfl
theorem w_rEnter_swap {h k s : Nat} : W0 c mb wb t id d vp a1 a2 a3 M cnt X (.rEnter h k (.swap s)) := by
 rintro ⟨b1, b2, b3⟩ ⟨n, w, nx, ot, jo, ow, le, eb, gb, cap, sv, b, rfl, ⟨rfl, rfl⟩⟩
 obtain ⟨⟨kb, _⟩, _, _, k3, _, k5, _⟩ := tk2 b1
 simp only [eOK, jOK] at b3
 by_cases h1 : M (.status (sl h)) = s
 ·exact lw (.rSnap h k) zap (fun _ => ⟨_, _, _, _, _, _, _, _, rfl⟩) (by simp [*]) (by simp [fo, *]) (fun _ => by simp only [fo]; rfl) rfl
 ·exact lw (.rEnter h k .look) zao (fun _ => ⟨_, _, _, _, _, _, _, _, _, _, _, _, rfl, rfl⟩) (by simp [*]) (by simp [fo, *]) (fun _ => by simp only [fo]; rfl) rfl
theorem w_rSnap {h k : Nat} : W0 c mb wb t id d vp a1 a2 a3 M cnt X (.rSnap h k) := by
 rintro ⟨b1, b2⟩ ⟨en, nx, ot, jo, ow, le, n, w, rfl⟩
 obtain ⟨⟨kb, _⟩, _, _, k3, _, k5, _⟩ := tk2 b1
 exact lw (.rLook h k (M (.snapshot (sl h)))) zaq (fun _ => ⟨_, _, _, _, _, _, _, rfl⟩) rfl (by simp [fo, *]) (fun _ => rfl) rfl
theorem w_rLook {h k n : Nat} : W0 c mb wb t id d vp a1 a2 a3 M cnt X (.rLook h k n) := by
 rintro ⟨b1, b2, b3⟩ ⟨en, nx, ot, jo, ow, le, w, rfl⟩
 obtain ⟨⟨kb, _⟩, _, _, k3, _, k5, _⟩ := tk2 b1
 by_cases h1 : Ma.hasW (M (.key k)) 0 (sl h : Int) = true
 ·rcases hl : otherN (M (.key k)) 1 (sl h) with _ | ⟨j2, r2⟩
  ·exact lg2 (.rLeave h k false .look 0) zas (fun _ => ⟨_, .refl _, _, _, _, _, _, _, rfl, _, _, _, _, _, _, _, _, _, _, _, _, rfl, rfl⟩) (fun _ => ⟨_, .refl _, _, _, _, _, _, _, rfl, _, _, _, _, _, _, _, _, _, _, _, _, rfl, rfl⟩) (by simp [*]) (by simp [fo, hM.lt, *]) fun _ => rfl
  ·exact lg2 (.rJoin h k n j2 r2 .look) zat (fun _ => by simp only [others_eq, fo, *]; exact ⟨_, .refl _, _, _, _, _, _, _, rfl, _, _, _, _, _, _, _, _, _, _, _, _, _, rfl, rfl, (rowA0 hl)⟩) (fun _ => by simp only [others_eq, fo, *]; exact ⟨_, .refl _, _, _, _, _, _, _, rfl, _, _, _, _, _, _, _, _, _, _, _, _, _, rfl, rfl, (rowA0 hl)⟩) (by simp [*]) (by simp [fo, hM.lt, *]) fun _ => rfl
 ·exact lw (.rMark h k n (M (.key k))) zar (fun _ => ⟨_, _, _, _, _, _, rfl⟩) (by simp [*]) (by simp [fo, hM.lt, *]) (fun _ => rfl) rfl
theorem w_rMark {h k n w : Nat} : W0 c mb wb t id d vp a1 a2 a3 M cnt X (.rMark h k n w) := by
 rintro ⟨b1, b2, b3, b4, b5⟩ ⟨en, nx, ot, jo, ow, le, rfl⟩
 obtain ⟨⟨kb, _⟩, _, _, k3, _, k5, _⟩ := tk2 b1
 by_cases h1 : M (.key k) = w
 ·rcases hl : otherN w 1 (sl h) with _ | ⟨j2, r2⟩
  ·exact lg2 (.rLeave h k false .look 0) zau (fun _ => ⟨_, .refl _, _, _, _, _, _, _, rfl, _, _, _, _, _, _, _, _, _, _, _, _, rfl, rfl⟩) (fun _ => ⟨_, .refl _, _, _, _, _, _, _, rfl, _, _, _, _, _, _, _, _, _, _, _, _, rfl, rfl⟩) (by simp [*]) (by simp [fo, *]) fun _ => rfl
  ·exact lg2 (.rJoin h k n j2 r2 .look) zav (fun _ => by simp only [others_eq, fo, *]; exact ⟨_, .refl _, _, _, _, _, _, _, rfl, _, _, _, _, _, _, _, _, _, _, _, _, _, rfl, rfl, (rowA0 hl)⟩) (fun _ => by simp only [others_eq, fo, *]; exact ⟨_, .refl _, _, _, _, _, _, _, rfl, _, _, _, _, _, _, _, _, _, _, _, _, _, rfl, rfl, (rowA0 hl)⟩) (by simp [*]) (by simp [fo, *]) fun _ => rfl
 ·exact lw (.rLook h k n) zaw (fun _ => ⟨_, _, _, _, _, _, _, rfl⟩) (by simp [*]) (by simp [fo, *]) (fun _ => rfl) rfl
theorem w_rJoin_look {h k n j : Nat} {r : List Nat} : W0 c mb wb t id d vp a1 a2 a3 M cnt X (.rJoin h k n j r .look) := by
 rintro ⟨b1, b2, b3, b4, b5⟩ ⟨ab, lb, rb, at', l, cap, w, en, le, ow, jb, sv, jv, rfl, rfl, ⟨a, rfl, hl1, hl2, hl3⟩⟩
 obtain ⟨⟨kb, _⟩, _, _, k3, _, k5, _⟩ := tk2 b1
 have hlL := b4
 have bj : (j : Int) < c.S := b4 j (List.mem_cons_self ..)
 have w1 : IntKind.i64.wrap ((a : Int) + 1) = ((a + 1 : Nat) : Int) := wrap1 (by omega)
 by_cases h1 : stOf (M (.status j)) = 4
 ·exact lw (.rJoin h k n j r (.number (M (.status j)))) zax (fun _ => ⟨_, _, _, _, _, _, _, _, _, _, _, _, _, rfl, ⟨rfl, rfl⟩, (⟨a, rfl, hl1, hl2, hl3⟩ : RowA r l a)⟩) (by simp [*]) (by simp [fo, hM.lt, *]) (fun _ => rfl) rfl
 ·by_cases h2 : stOf (M (.status j)) = 2
  ·by_cases h3 : St.hasW (M (.status j)) 1 (sl h : Int) = true
   ·exact lw (.rOwn h k n j r .look) zay (fun _ => ⟨_, _, _, _, _, _, _, _, _, _, _, _, _, rfl, rfl, (⟨a, rfl, hl1, hl2, hl3⟩ : RowA r l a)⟩) (by simp [*]) (by simp [fo, hM.lt, *]) (fun _ => rfl) rfl
   ·exact lw (.rJoin h k n j r (.lay (M (.status j)))) zaz (fun _ => ⟨_, _, _, _, _, _, _, _, _, _, _, _, _, rfl, ⟨rfl, rfl⟩, (⟨a, rfl, hl1, hl2, hl3⟩ : RowA r l a)⟩) (by simp [*]) (by simp [fo, hM.lt, *]) (fun _ => rfl) rfl
  ·by_cases h3 : stOf (M (.status j)) = 3
   ·by_cases h4 : St.hasW (M (.status j)) 1 (sl h : Int) = true
    ·exact lw (.rOwn h k n j r .look) zaA (fun _ => ⟨_, _, _, _, _, _, _, _, _, _, _, _, _, rfl, rfl, (⟨a, rfl, hl1, hl2, hl3⟩ : RowA r l a)⟩) (by simp [*]) (by simp [fo, hM.lt, *]) (fun _ => rfl) rfl
    ·by_cases h5 : St.anyW (M (.status j)) 0 = true
     ·exact lw (.rLeave h k true .look 7) zaB (fun _ => ⟨_, _, _, _, _, _, _, _, _, _, _, _, rfl, rfl⟩) (by simp [*]) (by simp [fo, hM.lt, *]) (fun _ => rfl) rfl
     ·exact lw (.rJoin h k n j r (.lay (M (.status j)))) zaC (fun _ => ⟨_, _, _, _, _, _, _, _, _, _, _, _, _, rfl, ⟨rfl, rfl⟩, (⟨a, rfl, hl1, hl2, hl3⟩ : RowA r l a)⟩) (by simp [*]) (by simp [fo, hM.lt, *]) (fun _ => rfl) rfl
   ·rcases r with _ | ⟨j2, r2⟩
    ·have q := rowA_end hl3
     exact lw (.rLeave h k false .look 0) zaE (fun _ => ⟨_, _, _, _, _, _, _, _, _, _, _, _, rfl, rfl⟩) (by simp [*]) (by simp [fo, hM.lt, *]; omega) (fun _ => rfl) rfl
    ·obtain ⟨q1, q2, q3⟩ := rowA_next hl3
     exact lw (.rJoin h k n j2 r2 .look) zaD (fun _ => by simp only [fo, *]; exact ⟨_, _, _, _, _, _, _, _, _, _, _, _, _, rfl, rfl, ⟨a + 1, rfl, hl1, q1, q3⟩⟩) (by simp [*]) (by simp [fo, hM.lt, *]; omega) (fun _ => rfl) rfl
theorem w_rJoin_number {h k n j s : Nat} {r : List Nat} : W0 c mb wb t id d vp a1 a2 a3 M cnt X (.rJoin h k n j r (.number s)) := by
 rintro ⟨b1, b2, b3, b4, b5⟩ ⟨ab, lb, rb, at', l, cap, w, en, le, ow, jb, sv, jv, rfl, ⟨rfl, rfl⟩, ⟨a, rfl, hl1, hl2, hl3⟩⟩
 obtain ⟨⟨kb, _⟩, _, _, k3, _, k5, _⟩ := tk2 b1
 simp only [eOK, jOK] at b5
 have hlL := b4
 have bj : (j : Int) < c.S := b4 j (List.mem_cons_self ..)
 have w1 : IntKind.i64.wrap ((a : Int) + 1) = ((a + 1 : Nat) : Int) := wrap1 (by omega)
 obtain ⟨hs1, hs4⟩ := b5
 by_cases h1 : Ta.pastB (M (.number j) : Int) (n : Int) = true
 ·rcases r with _ | ⟨j2, r2⟩
  ·have q := rowA_end hl3
   exact lw (.rLeave h k false .look 0) zaG (fun _ => ⟨_, _, _, _, _, _, _, _, _, _, _, _, rfl, rfl⟩) (by simp [*]) (by simp [fo, *]; omega) (fun _ => rfl) rfl
  ·obtain ⟨q1, q2, q3⟩ := rowA_next hl3
   exact lw (.rJoin h k n j2 r2 .look) zaF (fun _ => by simp only [fo, *]; exact ⟨_, _, _, _, _, _, _, _, _, _, _, _, _, rfl, rfl, ⟨a + 1, rfl, hl1, q1, q3⟩⟩) (by simp [*]) (by simp [fo, *]; omega) (fun _ => rfl) rfl
 ·by_cases h2 : St.hasW s 1 (sl h : Int) = true
  ·exact lw (.rOwn h k n j r .look) zaH (fun _ => ⟨_, _, _, _, _, _, _, _, _, _, _, _, _, rfl, rfl, (⟨a, rfl, hl1, hl2, hl3⟩ : RowA r l a)⟩) (by simp [*]) (by simp [fo, *]) (fun _ => rfl) rfl
  ·by_cases h3 : St.anyW s 0 = true
   ·exact lw (.rLeave h k true .look 7) zaI (fun _ => ⟨_, _, _, _, _, _, _, _, _, _, _, _, rfl, rfl⟩) (by simp [*]) (by simp [fo, *]) (fun _ => rfl) rfl
   ·exact lw (.rJoin h k n j r (.lay s)) zaJ (fun _ => ⟨_, _, _, _, _, _, _, _, _, _, _, _, _, rfl, ⟨rfl, rfl⟩, (⟨a, rfl, hl1, hl2, hl3⟩ : RowA r l a)⟩) (by simp [*]) (by simp [fo, *]) (fun _ => rfl) rfl
theorem w_rJoin_lay {h k n j s : Nat} {r : List Nat} : W0 c mb wb t id d vp a1 a2 a3 M cnt X (.rJoin h k n j r (.lay s)) := by
 rintro ⟨b1, b2, b3, b4, b5⟩ ⟨ab, lb, rb, at', l, cap, w, en, le, ow, jb, sv, jv, rfl, ⟨rfl, rfl⟩, ⟨a, rfl, hl1, hl2, hl3⟩⟩
 obtain ⟨⟨kb, _⟩, _, _, k3, _, k5, _⟩ := tk2 b1
 simp only [eOK, jOK] at b5
 have hlL := b4
 have bj : (j : Int) < c.S := b4 j (List.mem_cons_self ..)
 have w1 : IntKind.i64.wrap ((a : Int) + 1) = ((a + 1 : Nat) : Int) := wrap1 (by omega)
 by_cases h1 : M (.status j) = s
 ·exact lw (.rOwn h k n j r .look) zaK (fun _ => ⟨_, _, _, _, _, _, _, _, _, _, _, _, _, rfl, rfl, (⟨a, rfl, hl1, hl2, hl3⟩ : RowA r l a)⟩) (by simp [*]) (by simp [fo, *]) (fun _ => rfl) rfl
 ·exact lw (.rJoin h k n j r .look) zaL (fun _ => ⟨_, _, _, _, _, _, _, _, _, _, _, _, _, rfl, rfl, (⟨a, rfl, hl1, hl2, hl3⟩ : RowA r l a)⟩) (by simp [*]) (by simp [fo, *]) (fun _ => rfl) rfl
theorem w_rOwn_look {h k n j : Nat} {r : List Nat} : W0 c mb wb t id d vp a1 a2 a3 M cnt X (.rOwn h k n j r .look) := by
 rintro ⟨b1, b2, b3, b4, b5⟩ ⟨ab, lb, rb, at', l, cap, w, en, le, jo, wb2, sv, b, rfl, rfl, ⟨a, rfl, hl1, hl2, hl3⟩⟩
 obtain ⟨⟨kb, _⟩, _, _, k3, _, k5, _⟩ := tk2 b1
 have hlL := b4
 have bj : (j : Int) < c.S := b4 j (List.mem_cons_self ..)
 have w1 : IntKind.i64.wrap ((a : Int) + 1) = ((a + 1 : Nat) : Int) := wrap1 (by omega)
 by_cases h1 : St.withW (M (.status (sl h))) 0 (j : Int) = M (.status (sl h))
 ·rcases r with _ | ⟨j2, r2⟩
  ·have q := rowA_end hl3
   exact lw (.rLeave h k false .look 0) zaO (fun _ => ⟨_, _, _, _, _, _, _, _, _, _, _, _, rfl, rfl⟩) (by simp [*]) (by simp [fo, hM.lt, *]; omega) (fun _ => rfl) rfl
  ·obtain ⟨q1, q2, q3⟩ := rowA_next hl3
   exact lw (.rJoin h k n j2 r2 .look) zaN (fun _ => by simp only [fo, *]; exact ⟨_, _, _, _, _, _, _, _, _, _, _, _, _, rfl, rfl, ⟨a + 1, rfl, hl1, q1, q3⟩⟩) (by simp [*]) (by simp [fo, hM.lt, *]; omega) (fun _ => rfl) rfl
 ·have hb1 : (((St.withW (M (.status (sl h))) 0 (j : Int) : Nat) : Int) == ((M (.status (sl h)) : Nat) : Int)) = false := by simp; omega
  exact lw (.rOwn h k n j r (.swap (M (.status (sl h))))) zaM (fun _ => by simp only [fo, *]; exact ⟨_, _, _, _, _, _, _, _, _, _, _, _, _, rfl, ⟨rfl, rfl⟩, (⟨a, rfl, hl1, hl2, hl3⟩ : RowA r l a)⟩) (by simp [*]) (by simp [fo, hM.lt, *]) (fun _ => rfl) rfl
theorem w_rOwn_swap {h k n j s : Nat} {r : List Nat} : W0 c mb wb t id d vp a1 a2 a3 M cnt X (.rOwn h k n j r (.swap s)) := by
 rintro ⟨b1, b2, b3, b4, b5⟩ ⟨ab, lb, rb, at', l, cap, w, en, le, jo, wb2, sv, b, rfl, ⟨rfl, rfl⟩, ⟨a, rfl, hl1, hl2, hl3⟩⟩
 obtain ⟨⟨kb, _⟩, _, _, k3, _, k5, _⟩ := tk2 b1
 simp only [eOK, jOK] at b5
 have hlL := b4
 have bj : (j : Int) < c.S := b4 j (List.mem_cons_self ..)
 have w1 : IntKind.i64.wrap ((a : Int) + 1) = ((a + 1 : Nat) : Int) := wrap1 (by omega)
 by_cases h1 : M (.status (sl h)) = s
 ·rcases r with _ | ⟨j2, r2⟩
  ·have q := rowA_end hl3
   exact lw (.rLeave h k false .look 0) zaQ (fun _ => ⟨_, _, _, _, _, _, _, _, _, _, _, _, rfl, rfl⟩) (by simp [*]) (by simp [fo, *]; omega) (fun _ => rfl) rfl
  ·obtain ⟨q1, q2, q3⟩ := rowA_next hl3
   exact lw (.rJoin h k n j2 r2 .look) zaP (fun _ => by simp only [fo, *]; exact ⟨_, _, _, _, _, _, _, _, _, _, _, _, _, rfl, rfl, ⟨a + 1, rfl, hl1, q1, q3⟩⟩) (by simp [*]) (by simp [fo, *]; omega) (fun _ => rfl) rfl
 ·exact lw (.rOwn h k n j r .look) zaR (fun _ => by simp only [fo, *]; exact ⟨_, _, _, _, _, _, _, _, _, _, _, _, _, rfl, rfl, (⟨a, rfl, hl1, hl2, hl3⟩ : RowA r l a)⟩) (by simp [*]) (by simp [fo, *]) (fun _ => rfl) rfl
theorem w_rLeave_stay_look {h k : Nat} {e : Int} : W0 c mb wb t id d vp a1 a2 a3 M cnt X (.rLeave h k false .look e) := by
 rintro ⟨b1, b2⟩ ⟨rb, xb, n, w, en, nx, ot, jo, ow, lb, sv, b, rfl, rfl⟩
 obtain ⟨⟨kb, _⟩, _, _, k3, _, k5, _⟩ := tk2 b1
 exact lw (.rLeave h k false (.swap (M (.status (sl h)))) e) zaS (fun _ => ⟨_, _, _, _, _, _, _, _, _, _, _, _, rfl, ⟨rfl, rfl⟩⟩) rfl (by simp [fo, *]) (fun _ => rfl) rfl
theorem w_rLeave_stay_swap {h k s : Nat} {e : Int} : W0 c mb wb t id d vp a1 a2 a3 M cnt X (.rLeave h k false (.swap s) e) := by
 rintro ⟨b1, b2⟩ ⟨rb, xb, n, w, en, nx, ot, jo, ow, lb, sv, b, rfl, ⟨rfl, rfl⟩⟩
 obtain ⟨⟨kb, _⟩, _, _, k3, _, k5, _⟩ := tk2 b1
 simp only [eOK, jOK] at b2
 by_cases h1 : M (.status (sl h)) = s
 ·exact lv .r ⟨e, 0, 0⟩ zaT (fun _ => ⟨rfl, rfl, _, _, _, _, _, _, _, _, _, _, _, rfl⟩) (by simp [*]) (by simp [fo, *]) (fun _ => by simp only [fo]; rfl) rfl
 ·exact lw (.rLeave h k false .look e) zaU (fun _ => by simp only [fo, *]; exact ⟨_, _, _, _, _, _, _, _, _, _, _, _, rfl, rfl⟩) (by simp [*]) (by simp [fo, *]) (fun _ => by simp only [fo]; rfl) rfl
theorem w_rLeave_abort_look {h k : Nat} {e : Int} : W0 c mb wb t id d vp a1 a2 a3 M cnt X (.rLeave h k true .look e) := by
 rintro ⟨b1, b2⟩ ⟨rb, xb, n, w, en, nx, ot, jo, ow, lb, sv, b, rfl, rfl⟩
 obtain ⟨⟨kb, _⟩, _, _, k3, _, k5, _⟩ := tk2 b1
 exact lw (.rLeave h k true (.swap (M (.status (sl h)))) e) zaV (fun _ => ⟨_, _, _, _, _, _, _, _, _, _, _, _, rfl, ⟨rfl, rfl⟩⟩) rfl (by simp [fo, *]) (fun _ => rfl) rfl
theorem w_rLeave_abort_swap {h k s : Nat} {e : Int} : W0 c mb wb t id d vp a1 a2 a3 M cnt X (.rLeave h k true (.swap s) e) := by
 rintro ⟨b1, b2⟩ ⟨rb, xb, n, w, en, nx, ot, jo, ow, lb, sv, b, rfl, ⟨rfl, rfl⟩⟩
 obtain ⟨⟨kb, _⟩, _, _, k3, _, k5, _⟩ := tk2 b1
 simp only [eOK, jOK] at b2
 by_cases h1 : M (.status (sl h)) = s
 ·exact lv .r ⟨e, 0, 0⟩ zaW (fun _ => ⟨rfl, rfl, _, _, _, _, _, _, _, _, _, _, _, rfl⟩) (by simp [*]) (by simp [fo, *]) (fun _ => rfl) rfl
 ·exact lw (.rLeave h k true .look e) zaX (fun _ => by simp only [fo, *]; exact ⟨_, _, _, _, _, _, _, _, _, _, _, _, rfl, rfl⟩) (by simp [*]) (by simp [fo, *]) (fun _ => rfl) rfl
end Go.Proofs.YtfinmiakbpmjiaaGreat.Um
