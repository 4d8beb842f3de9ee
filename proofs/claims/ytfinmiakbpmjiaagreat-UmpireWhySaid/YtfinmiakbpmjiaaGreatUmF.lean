/-
  A Write, state by state.
-/
import Derived.Test.YtfinmiakbpmjiaaGreatUmD
import Derived.Test.YtfinmiakbpmjiaaGreatSoC
set_option linter.unusedSimpArgs false
set_option linter.unusedVariables false
namespace Go.Proofs.YtfinmiakbpmjiaaGreat.Um
open Go Go.RowKit Go.Proofs.YtfinmiakbpmjiaaGreat Go.Proofs.YtfinmiakbpmjiaaGreat.Ax
theorem rowV0 (j : Nat) (r : List Nat) (x : Nat) : RowV (j :: r) ((j :: r).map fun j : Nat => (j : Int)) 0 ((j :: r).map fun j : Nat => (j : Int)).length (((j :: r).map fun j : Nat => (j : Int)).length + x) := ⟨by simp, by omega, fun _ => rfl⟩
theorem rowV_head {j f : Nat} {r : List Nat} {l : List Int} (h : l.drop f = (j :: r).map fun j : Nat => (j : Int)) : f < l.length ∧ l.getD f 0 = (j : Int) ∧ (l.getD f 0).toNat = j ∧ l.drop (f + 1) = r.map fun j : Nat => (j : Int) := by
 have h1 : f < l.length := by
  have := congrArg List.length h
  simp at this
  omega
 have h2 : l.getD f 0 = (j : Int) := by
  have := congrArg (fun x => x.getD 0 0) h
  simp only [List.map_cons, List.getD_cons_zero] at this
  rw [← this]
  simp [List.getD_eq_getElem?_getD]
 refine ⟨h1, h2, by rw [h2]; rfl, ?_⟩
 have := congrArg List.tail h
 simpa using this
theorem cut1 {cap : Nat} (h : 2 ≤ cap) : cutBy cap 1 1 = 1 := by
 unfold cutBy
 rw [if_neg (by omega)]
theorem rowV_next {j j2 f cap : Nat} {r : List Nat} {l : List Int} (h : l.drop f = (j :: j2 :: r).map fun j : Nat => (j : Int)) (hc : 2 ≤ cap) : f + cutBy cap 1 1 < l.length ∧ l.getD (f + cutBy cap 1 1) 0 = (j2 : Int) ∧ l.drop (f + cutBy cap 1 1) = (j2 :: r).map fun j : Nat => (j : Int) := by
 rw [cut1 hc]
 obtain ⟨h1, h2, h3, h4⟩ := rowV_head h
 obtain ⟨q1, q2, q3, q4⟩ := rowV_head h4
 exact ⟨q1, q2, h4⟩
variable {c : Cfg} {mb wb t id d : Nat} {vp a1 a2 a3 : Value} {M : Mm} {cnt : Nat} {X : List Blk} (hr : 1 ≤ c.T ∧ c.T ≤ 8 ∧ 1 ≤ c.S ∧ c.S ≤ 12 ∧ 1 ≤ c.K ∧ c.K ≤ 8 ∧ 0 ≤ c.L ∧ c.L ≤ 1073741823 ∧ 0 ≤ c.Q ∧ c.Q ≤ 1099511627775) (hM : MemOK c M) (hn : cnt < 1000000000) (hid : (id : Int) < c.T)
include hr hM hn hid
set_option linter.unusedSectionVars false
attribute [local simp] mstep estep hstep lstep jstep jjudge ostep ld cas oGoes rFound rNext wFound wNext wGoes sAges sGraces sGoes sKey sOther n0 seen4 U_iff Spot.ok mvlt others_eq MemOK.lt all A3
theorem w_wEnter_look {h k : Nat} : W0 c mb wb t id d vp a1 a2 a3 M cnt X (.wEnter h k .look) := by
 rintro ⟨b1, b2, b3⟩ ⟨n, w, ri, ot, jo, ow, le, eb, gb, cap, sv, b, rfl, rfl⟩
 obtain ⟨⟨kb, _⟩, _, _, k3, _, k5, _⟩ := tk2 b1
 by_cases h1 : gnOf (M (.status (sl h))) = h / 16
 ·by_cases h2 : stOf (M (.status (sl h))) = 0
  ·exact lv .w ⟨2, 0, 0⟩ zaZ (fun _ => ⟨rfl, rfl, _, _, _, _, _, _, _, _, _, _, _, rfl⟩) (by simp [*]) (by simp [fo, hM.lt, *]) (fun _ => rfl) rfl
  ·by_cases h3 : stOf (M (.status (sl h))) = 1
   ·exact lv .w ⟨2, 0, 0⟩ zb0 (fun _ => ⟨rfl, rfl, _, _, _, _, _, _, _, _, _, _, _, rfl⟩) (by simp [*]) (by simp [fo, hM.lt, *]) (fun _ => rfl) rfl
   ·by_cases h4 : bz (M (.status (sl h))) = true
    ·exact lv .w ⟨3, 0, 0⟩ zb1 (fun _ => ⟨rfl, rfl, _, _, _, _, _, _, _, _, _, _, _, rfl⟩) (by simp [*]) (by simp [fo, hM.lt, *]; omega) (fun _ => rfl) rfl
    ·by_cases h5 : stOf (M (.status (sl h))) = 2
     ·exact lw (.wEnter h k (.swap (M (.status (sl h))))) zb3 (fun _ => ⟨_, _, _, _, _, _, _, _, _, _, _, _, rfl, ⟨rfl, rfl⟩⟩) (by simp [*]) (by simp [fo, hM.lt, *]) (fun _ => rfl) rfl
     ·exact lv .w ⟨4, 0, 0⟩ zb2 (fun _ => ⟨rfl, rfl, _, _, _, _, _, _, _, _, _, _, _, rfl⟩) (by simp [*]) (by simp [fo, hM.lt, *]; omega) (fun _ => rfl) rfl
 ·exact lv .w ⟨2, 0, 0⟩ zaY (fun _ => ⟨rfl, rfl, _, _, _, _, _, _, _, _, _, _, _, rfl⟩) (by simp [*]) (by simp [fo, hM.lt, *]; omega) (fun _ => rfl) rfl
theorem w_wEnter_swap {h k s : Nat} : W0 c mb wb t id d vp a1 a2 a3 M cnt X (.wEnter h k (.swap s)) := by
 rintro ⟨b1, b2, b3⟩ ⟨n, w, ri, ot, jo, ow, le, eb, gb, cap, sv, b, rfl, ⟨rfl, rfl⟩⟩
 obtain ⟨⟨kb, _⟩, _, _, k3, _, k5, _⟩ := tk2 b1
 simp only [eOK, jOK] at b3
 by_cases h1 : M (.status (sl h)) = s
 ·exact lw (.wSnap h k) zb5 (fun _ => ⟨_, _, _, _, _, _, _, _, rfl⟩) (by simp [*]) (by simp [fo, *]) (fun _ => by simp only [fo]; rfl) rfl
 ·exact lw (.wEnter h k .look) zb4 (fun _ => ⟨_, _, _, _, _, _, _, _, _, _, _, _, rfl, rfl⟩) (by simp [*]) (by simp [fo, *]) (fun _ => by simp only [fo]; rfl) rfl
theorem w_wSnap {h k : Nat} : W0 c mb wb t id d vp a1 a2 a3 M cnt X (.wSnap h k) := by
 rintro ⟨b1, b2⟩ ⟨en, ri, ot, jo, ow, le, n, w, rfl⟩
 obtain ⟨⟨kb, _⟩, _, _, k3, _, k5, _⟩ := tk2 b1
 exact lw (.wLook h k (M (.snapshot (sl h)))) zb6 (fun _ => ⟨_, _, _, _, _, _, _, rfl⟩) rfl (by simp [fo, *]) (fun _ => rfl) rfl
theorem w_wLook {h k n : Nat} : W0 c mb wb t id d vp a1 a2 a3 M cnt X (.wLook h k n) := by
 rintro ⟨b1, b2, b3⟩ ⟨en, jo, ow, le, w, ri, ot, rfl⟩
 obtain ⟨⟨kb, _⟩, _, _, k3, _, k5, _⟩ := tk2 b1
 rcases hl : otherN (M (.key k)) 1 (sl h) with _ | ⟨j2, r2⟩
 ·by_cases h2 : Ma.hasW (M (.key k)) 1 (sl h : Int) = true
  ·rcases hm2 : otherN (M (.key k)) 0 (sl h) with _ | ⟨j2, r2⟩
   ·exact lw (.wLeave h k false .look 0) zb9 (fun _ => ⟨_, _, _, _, _, _, _, _, _, _, _, _, rfl, rfl⟩) (by simp [*]) (by simp [fo, hM.lt, *]) (fun _ => rfl) rfl
   ·exact lw (.wJoin h k n j2 r2 .look) zba (fun _ => by simp only [others_eq, fo, *]; exact ⟨_, _, _, _, _, _, _, _, _, _, _, _, _, rfl, rfl, (rowV0 _ _ _)⟩) (by simp [*]) (by simp [fo, hM.lt, *]; omega) (fun _ => rfl) rfl
  ·exact lw (.wMark h k n (M (.key k))) zb8 (fun _ => ⟨_, _, _, _, _, _, rfl⟩) (by simp [*]) (by simp [fo, hM.lt, *]) (fun _ => rfl) rfl
 ·exact lw (.wRival h k n (M (.key k)) j2 r2) zb7 (fun _ => by simp only [others_eq, fo, *]; exact ⟨_, _, _, _, _, _, _, _, _, _, rfl, (rowV0 _ _ _)⟩) (by simp [*]) (by simp [fo, hM.lt, *]; omega) (fun _ => rfl) rfl
theorem w_wMark {h k n w : Nat} : W0 c mb wb t id d vp a1 a2 a3 M cnt X (.wMark h k n w) := by
 rintro ⟨b1, b2, b3, b4, b5⟩ ⟨en, jo, ow, le, ri, ot, rfl⟩
 obtain ⟨⟨kb, _⟩, _, _, k3, _, k5, _⟩ := tk2 b1
 by_cases h1 : M (.key k) = w
 ·rcases hm2 : otherN w 0 (sl h) with _ | ⟨j2, r2⟩
  ·exact lw (.wLeave h k false .look 0) zbn (fun _ => ⟨_, _, _, _, _, _, _, _, _, _, _, _, rfl, rfl⟩) (by simp [*]) (by simp [fo, *]) (fun _ => rfl) rfl
  ·exact lw (.wJoin h k n j2 r2 .look) zbo (fun _ => by simp only [others_eq, fo, *]; exact ⟨_, _, _, _, _, _, _, _, _, _, _, _, _, rfl, rfl, (rowV0 _ _ _)⟩) (by simp [*]) (by simp [fo, *]; omega) (fun _ => rfl) rfl
 ·exact lw (.wLook h k n) zbp (fun _ => ⟨_, _, _, _, _, _, _, rfl⟩) (by simp [*]) (by simp [fo, *]) (fun _ => rfl) rfl
theorem w_wRival {h k n w j : Nat} {r : List Nat} : W0 c mb wb t id d vp a1 a2 a3 M cnt X (.wRival h k n w j r) := by
 rintro ⟨b1, b2, b3, b4, b5, b6⟩ ⟨en, jo, ow, le, rb, f, l, len, cap, ot, rfl, ⟨hl1, hl2, hl3⟩⟩
 obtain ⟨⟨kb, _⟩, _, _, k3, _, k5, _⟩ := tk2 b1
 have bj : (j : Int) < c.S := b6 j (List.mem_cons_self ..)
 obtain ⟨v1, v2, v3, v4⟩ := rowV_head (hl3 (by simp))
 simp only [List.length_cons] at hl1
 by_cases h1 : stOf (M (.status j)) = 2
 ·exact lg (.wLeave h k true .look 8) zbb (fun _ => ⟨_, List.dropLast_sublist _, _, _, _, _, _, _, rfl, _, _, _, _, _, _, _, _, _, _, _, _, rfl, rfl⟩) (by simp [*]) (by simp only [all, A3, fo, *]; simp [hM.lt, *]) fun _ => by simp only [fo, *]; rfl
 ·by_cases h2 : stOf (M (.status j)) = 3
  ·exact lg (.wLeave h k true .look 8) zbc (fun _ => ⟨_, List.dropLast_sublist _, _, _, _, _, _, _, rfl, _, _, _, _, _, _, _, _, _, _, _, _, rfl, rfl⟩) (by simp [*]) (by simp only [all, A3, fo, *]; simp [hM.lt, *]) fun _ => by simp only [fo, *]; rfl
  ·by_cases h3 : stOf (M (.status j)) = 4
   ·exact lw (.wNumber h k n w j r) zbd (fun _ => ⟨_, _, _, _, _, _, _, _, _, _, rfl, ⟨by simpa using hl1, hl2, hl3⟩⟩) (by simp [*]) (by simp only [all, A3, fo, *]; simp [hM.lt, *]) (fun _ => by simp only [fo, *]; rfl) rfl
   ·rcases r with _ | ⟨j2, r2⟩
    ·simp only [List.length_nil] at hl1
     by_cases h5 : Ma.hasW w 1 (sl h : Int) = true
     ·rcases hm2 : otherN w 0 (sl h) with _ | ⟨j2, r2⟩
      ·exact lg (.wLeave h k false .look 0) zbg (fun _ => ⟨_, List.dropLast_sublist _, _, _, _, _, _, _, rfl, _, _, _, _, _, _, _, _, _, _, _, _, rfl, rfl⟩) (by simp [*]) (by simp only [all, A3, fo, *]; simp [hM.lt, *]; omega) fun _ => by simp only [fo, *]; rfl
      ·exact lg (.wJoin h k n j2 r2 .look) zbh (fun _ => by simp only [others_eq, fo, *]; exact ⟨_, List.dropLast_sublist _, _, _, _, _, _, _, rfl, _, _, _, _, _, _, _, _, _, _, _, _, _, rfl, rfl, (rowV0 _ _ _)⟩) (by simp [*]) (by simp only [all, A3, fo, *]; simp [hM.lt, *]; omega) fun _ => by simp only [fo, *]; rfl
     ·exact lg (.wMark h k n w) zbf (fun _ => ⟨_, List.dropLast_sublist _, _, _, _, _, _, _, rfl, _, _, _, _, _, _, rfl⟩) (by simp [*]) (by simp only [all, A3, fo, *]; simp [hM.lt, *]; omega) fun _ => by simp only [fo, *]; rfl
    ·simp only [List.length_cons] at hl1
     obtain ⟨q1, q2, q3⟩ := rowV_next (cap := cap) (hl3 (by simp)) (by omega)
     exact lw (.wRival h k n w j2 r2) zbe (fun _ => ⟨_, _, _, _, _, _, _, _, _, _, rfl, ⟨by simp only [List.length_cons]; omega, by omega, fun _ => q3⟩⟩) (by simp [*]) (by simp only [all, A3, fo, *]; simp [hM.lt, *]; omega) (fun _ => by simp only [fo, *]; rfl) rfl
theorem w_wNumber {h k n w j : Nat} {r : List Nat} : W0 c mb wb t id d vp a1 a2 a3 M cnt X (.wNumber h k n w j r) := by
 rintro ⟨b1, b2, b3, b4, b5, b6⟩ ⟨en, jo, ow, le, rb, f, l, len, cap, ot, rfl, ⟨hl1, hl2, hl3⟩⟩
 obtain ⟨⟨kb, _⟩, _, _, k3, _, k5, _⟩ := tk2 b1
 have bj : (j : Int) < c.S := b6 j (List.mem_cons_self ..)
 obtain ⟨v1, v2, v3, v4⟩ := rowV_head (hl3 (by simp))
 simp only [List.length_cons] at hl1
 by_cases h1 : Ta.pastB (M (.number j) : Int) (n : Int) = true
 ·rcases r with _ | ⟨j2, r2⟩
  ·simp only [List.length_nil] at hl1
   by_cases h3 : Ma.hasW w 1 (sl h : Int) = true
   ·rcases hm2 : otherN w 0 (sl h) with _ | ⟨j2, r2⟩
    ·exact lg (.wLeave h k false .look 0) zbk (fun _ => ⟨_, List.dropLast_sublist _, _, _, _, _, _, _, rfl, _, _, _, _, _, _, _, _, _, _, _, _, rfl, rfl⟩) (by simp [*]) (by simp only [all, A3, fo, *]; simp [hM.lt, *]) fun _ => by simp only [fo, *]; rfl
    ·exact lg (.wJoin h k n j2 r2 .look) zbl (fun _ => by simp only [others_eq, fo, *]; exact ⟨_, List.dropLast_sublist _, _, _, _, _, _, _, rfl, _, _, _, _, _, _, _, _, _, _, _, _, _, rfl, rfl, (rowV0 _ _ _)⟩) (by simp [*]) (by simp only [all, A3, fo, *]; simp [hM.lt, *]; omega) fun _ => by simp only [fo, *]; rfl
   ·exact lg (.wMark h k n w) zbj (fun _ => ⟨_, List.dropLast_sublist _, _, _, _, _, _, _, rfl, _, _, _, _, _, _, rfl⟩) (by simp [*]) (by simp only [all, A3, fo, *]; simp [hM.lt, *]) fun _ => by simp only [fo, *]; rfl
  ·simp only [List.length_cons] at hl1
   obtain ⟨q1, q2, q3⟩ := rowV_next (cap := cap) (hl3 (by simp)) (by omega)
   exact lw (.wRival h k n w j2 r2) zbi (fun _ => ⟨_, _, _, _, _, _, _, _, _, _, rfl, ⟨by simp only [List.length_cons]; omega, by omega, fun _ => q3⟩⟩) (by simp [*]) (by simp only [all, A3, fo, *]; simp [hM.lt, *]; omega) (fun _ => by simp only [fo, *]; rfl) rfl
 ·exact lg (.wLeave h k true .look 8) zbm (fun _ => ⟨_, List.dropLast_sublist _, _, _, _, _, _, _, rfl, _, _, _, _, _, _, _, _, _, _, _, _, rfl, rfl⟩) (by simp [*]) (by simp only [all, A3, fo, *]; simp [hM.lt, *]) fun _ => by simp only [fo, *]; rfl
theorem w_wJoin_look {h k n j : Nat} {r : List Nat} : W0 c mb wb t id d vp a1 a2 a3 M cnt X (.wJoin h k n j r .look) := by
 rintro ⟨b1, b2, b3, b4, b5⟩ ⟨rb, f, l, len, cap, w, ri, en, le, ow, jb, sv, jv, rfl, rfl, ⟨hl1, hl2, hl3⟩⟩
 obtain ⟨⟨kb, _⟩, _, _, k3, _, k5, _⟩ := tk2 b1
 have bj : (j : Int) < c.S := b4 j (List.mem_cons_self ..)
 obtain ⟨v1, v2, v3, v4⟩ := rowV_head (hl3 (by simp))
 simp only [List.length_cons] at hl1
 by_cases h1 : stOf (M (.status j)) = 4
 ·exact lw (.wJoin h k n j r (.number (M (.status j)))) zbq (fun _ => ⟨_, _, _, _, _, _, _, _, _, _, _, _, _, rfl, ⟨rfl, rfl⟩, ⟨by simpa using hl1, hl2, hl3⟩⟩) (by simp [*]) (by simp [fo, hM.lt, *]) (fun _ => rfl) rfl
 ·by_cases h2 : stOf (M (.status j)) = 2
  ·by_cases h3 : St.hasW (M (.status j)) 0 (sl h : Int) = true
   ·exact lw (.wOwn h k n j r .look) zbr (fun gs => by (try simp only [fo, v1, v2, v3, List.getD_cons_zero, Nat.add_zero, h1, h2, h3]); exact ⟨_, _, _, _, _, _, _, _, _, _, _, _, _, rfl, rfl, ⟨by simpa using hl1, hl2, hl3⟩⟩) (by simp [*]) (by simp [fo, hM.lt, *]) (fun _ => rfl) rfl
   ·exact lw (.wJoin h k n j r (.lay (M (.status j)))) zbs (fun _ => ⟨_, _, _, _, _, _, _, _, _, _, _, _, _, rfl, ⟨rfl, rfl⟩, ⟨by simpa using hl1, hl2, hl3⟩⟩) (by simp [*]) (by simp [fo, hM.lt, *]) (fun _ => rfl) rfl
  ·by_cases h3 : stOf (M (.status j)) = 3
   ·by_cases h4 : St.hasW (M (.status j)) 0 (sl h : Int) = true
    ·exact lw (.wOwn h k n j r .look) zbt (fun gs => by (try simp only [fo, v1, v2, v3, List.getD_cons_zero, Nat.add_zero, h1, h2, h3, h4]); exact ⟨_, _, _, _, _, _, _, _, _, _, _, _, _, rfl, rfl, ⟨by simpa using hl1, hl2, hl3⟩⟩) (by simp [*]) (by simp [fo, hM.lt, *]) (fun _ => rfl) rfl
    ·by_cases h5 : St.anyW (M (.status j)) 1 = true
     ·exact lg (.wLeave h k true .look 7) zbu (fun _ => ⟨_, List.dropLast_sublist _, _, _, _, _, _, _, rfl, _, _, _, _, _, _, _, _, _, _, _, _, rfl, rfl⟩) (by simp [*]) (by simp [fo, hM.lt, *]) fun _ => rfl
     ·exact lw (.wJoin h k n j r (.lay (M (.status j)))) zbv (fun _ => ⟨_, _, _, _, _, _, _, _, _, _, _, _, _, rfl, ⟨rfl, rfl⟩, ⟨by simpa using hl1, hl2, hl3⟩⟩) (by simp [*]) (by simp [fo, hM.lt, *]) (fun _ => rfl) rfl
   ·rcases r with _ | ⟨j2, r2⟩
    ·simp only [List.length_nil] at hl1
     exact lg (.wLeave h k false .look 0) zbx (fun _ => ⟨_, List.dropLast_sublist _, _, _, _, _, _, _, rfl, _, _, _, _, _, _, _, _, _, _, _, _, rfl, rfl⟩) (by simp [*]) (by simp [fo, hM.lt, *]; omega) fun _ => rfl
    ·simp only [List.length_cons] at hl1
     obtain ⟨q1, q2, q3⟩ := rowV_next (cap := cap) (hl3 (by simp)) (by omega)
     exact lw (.wJoin h k n j2 r2 .look) zbw (fun _ => by simp only [fo, *]; exact ⟨_, _, _, _, _, _, _, _, _, _, _, _, _, rfl, rfl, ⟨by simp only [List.length_cons]; omega, by omega, fun _ => q3⟩⟩) (by simp [*]) (by repeat' first | exact trivial | with_reducible apply ac | with_reducible apply aq | (simp only [fo, *] <;> (try simp [*]) <;> omega) | (simp [fo, hM.lt, *]; done) | (simp [fo, *]; omega) | exact q1) (fun _ => rfl) rfl
theorem w_wJoin_number {h k n j s : Nat} {r : List Nat} : W0 c mb wb t id d vp a1 a2 a3 M cnt X (.wJoin h k n j r (.number s)) := by
 rintro ⟨b1, b2, b3, b4, b5⟩ ⟨rb, f, l, len, cap, w, ri, en, le, ow, jb, sv, jv, rfl, ⟨rfl, rfl⟩, ⟨hl1, hl2, hl3⟩⟩
 obtain ⟨⟨kb, _⟩, _, _, k3, _, k5, _⟩ := tk2 b1
 simp only [eOK, jOK] at b5
 have bj : (j : Int) < c.S := b4 j (List.mem_cons_self ..)
 obtain ⟨v1, v2, v3, v4⟩ := rowV_head (hl3 (by simp))
 simp only [List.length_cons] at hl1
 obtain ⟨hs1, hs4⟩ := b5
 by_cases h1 : Ta.pastB (M (.number j) : Int) (n : Int) = true
 ·rcases r with _ | ⟨j2, r2⟩
  ·simp only [List.length_nil] at hl1
   exact lg (.wLeave h k false .look 0) zbz (fun _ => ⟨_, List.dropLast_sublist _, _, _, _, _, _, _, rfl, _, _, _, _, _, _, _, _, _, _, _, _, rfl, rfl⟩) (by simp [*]) (by simp [fo, *]) fun _ => rfl
  ·simp only [List.length_cons] at hl1
   obtain ⟨q1, q2, q3⟩ := rowV_next (cap := cap) (hl3 (by simp)) (by omega)
   exact lw (.wJoin h k n j2 r2 .look) zby (fun _ => by simp only [fo, *]; exact ⟨_, _, _, _, _, _, _, _, _, _, _, _, _, rfl, rfl, ⟨by simp only [List.length_cons]; omega, by omega, fun _ => q3⟩⟩) (by simp [*]) (by repeat' first | exact trivial | with_reducible apply ac | with_reducible apply aq | (simp only [fo, *] <;> (try simp [*]) <;> omega) | (simp [fo, hM.lt, *]; done) | (simp [fo, *]; omega) | exact q1) (fun _ => rfl) rfl
 ·by_cases h2 : St.hasW s 0 (sl h : Int) = true
  ·exact lw (.wOwn h k n j r .look) zbA (fun gs => by (try simp only [fo, v1, v2, v3, List.getD_cons_zero, Nat.add_zero, hs4, h1, h2]); exact ⟨_, _, _, _, _, _, _, _, _, _, _, _, _, rfl, rfl, ⟨by simpa using hl1, hl2, hl3⟩⟩) (by simp [*]) (by simp [fo, *]) (fun _ => rfl) rfl
  ·by_cases h3 : St.anyW s 1 = true
   ·exact lg (.wLeave h k true .look 7) zbB (fun _ => ⟨_, List.dropLast_sublist _, _, _, _, _, _, _, rfl, _, _, _, _, _, _, _, _, _, _, _, _, rfl, rfl⟩) (by simp [*]) (by simp [fo, *]) fun _ => rfl
   ·exact lw (.wJoin h k n j r (.lay s)) zbC (fun _ => ⟨_, _, _, _, _, _, _, _, _, _, _, _, _, rfl, ⟨rfl, rfl⟩, ⟨by simpa using hl1, hl2, hl3⟩⟩) (by simp [*]) (by simp [fo, *]) (fun _ => rfl) rfl
theorem w_wJoin_lay {h k n j s : Nat} {r : List Nat} : W0 c mb wb t id d vp a1 a2 a3 M cnt X (.wJoin h k n j r (.lay s)) := by
 rintro ⟨b1, b2, b3, b4, b5⟩ ⟨rb, f, l, len, cap, w, ri, en, le, ow, jb, sv, jv, rfl, ⟨rfl, rfl⟩, ⟨hl1, hl2, hl3⟩⟩
 obtain ⟨⟨kb, _⟩, _, _, k3, _, k5, _⟩ := tk2 b1
 simp only [eOK, jOK] at b5
 have bj : (j : Int) < c.S := b4 j (List.mem_cons_self ..)
 obtain ⟨v1, v2, v3, v4⟩ := rowV_head (hl3 (by simp))
 simp only [List.length_cons] at hl1
 by_cases h1 : M (.status j) = s
 ·exact lw (.wOwn h k n j r .look) zbD (fun gs => by (try simp only [fo, v1, v2, v3, List.getD_cons_zero, Nat.add_zero, h1]); exact ⟨_, _, _, _, _, _, _, _, _, _, _, _, _, rfl, rfl, ⟨by simpa using hl1, hl2, hl3⟩⟩) (by simp [*]) (by simp [fo, *]) (fun _ => rfl) rfl
 ·exact lw (.wJoin h k n j r .look) zbE (fun _ => ⟨_, _, _, _, _, _, _, _, _, _, _, _, _, rfl, rfl, ⟨by simpa using hl1, hl2, hl3⟩⟩) (by simp [*]) (by simp [fo, *]) (fun _ => rfl) rfl
theorem w_wOwn_look {h k n j : Nat} {r : List Nat} : W0 c mb wb t id d vp a1 a2 a3 M cnt X (.wOwn h k n j r .look) := by
 rintro ⟨b1, b2, b3, b4, b5⟩ ⟨rb, f, l, len, cap, w, ri, en, le, jo, wb2, sv, b, rfl, rfl, ⟨hl1, hl2, hl3⟩⟩
 obtain ⟨⟨kb, _⟩, _, _, k3, _, k5, _⟩ := tk2 b1
 have bj : (j : Int) < c.S := b4 j (List.mem_cons_self ..)
 obtain ⟨v1, v2, v3, v4⟩ := rowV_head (hl3 (by simp))
 simp only [List.length_cons] at hl1
 by_cases h1 : St.withW (M (.status (sl h))) 1 (j : Int) = M (.status (sl h))
 ·rcases r with _ | ⟨j2, r2⟩
  ·simp only [List.length_nil] at hl1
   exact lg (.wLeave h k false .look 0) zbH (fun _ => ⟨_, List.dropLast_sublist _, _, _, _, _, _, _, rfl, _, _, _, _, _, _, _, _, _, _, _, _, rfl, rfl⟩) (by simp [*]) (by simp [fo, hM.lt, *]) fun _ => rfl
  ·simp only [List.length_cons] at hl1
   obtain ⟨q1, q2, q3⟩ := rowV_next (cap := cap) (hl3 (by simp)) (by omega)
   exact lw (.wJoin h k n j2 r2 .look) zbG (fun _ => by simp only [fo, *]; exact ⟨_, _, _, _, _, _, _, _, _, _, _, _, _, rfl, rfl, ⟨by simp only [List.length_cons]; omega, by omega, fun _ => q3⟩⟩) (by simp [*]) (by repeat' first | exact trivial | with_reducible apply ac | with_reducible apply aq | (simp only [fo, *] <;> (try simp [*]) <;> omega) | (simp [fo, hM.lt, *]; done) | (simp [fo, *]; omega) | exact q1) (fun _ => rfl) rfl
 ·have hb1 : (((St.withW (M (.status (sl h))) 1 (j : Int) : Nat) : Int) == ((M (.status (sl h)) : Nat) : Int)) = false := by simp; omega
  exact lw (.wOwn h k n j r (.swap (M (.status (sl h))))) zbF (fun gs => by (try simp only [fo, v1, v2, v3, List.getD_cons_zero, Nat.add_zero, h1, hb1]); exact ⟨_, _, _, _, _, _, _, _, _, _, _, _, _, rfl, ⟨rfl, rfl⟩, ⟨by simpa using hl1, hl2, hl3⟩⟩) (by simp [*]) (by simp [fo, hM.lt, *]) (fun _ => rfl) rfl
theorem w_wOwn_swap {h k n j s : Nat} {r : List Nat} : W0 c mb wb t id d vp a1 a2 a3 M cnt X (.wOwn h k n j r (.swap s)) := by
 rintro ⟨b1, b2, b3, b4, b5⟩ ⟨rb, f, l, len, cap, w, ri, en, le, jo, wb2, sv, b, rfl, ⟨rfl, rfl⟩, ⟨hl1, hl2, hl3⟩⟩
 obtain ⟨⟨kb, _⟩, _, _, k3, _, k5, _⟩ := tk2 b1
 simp only [eOK, jOK] at b5
 have bj : (j : Int) < c.S := b4 j (List.mem_cons_self ..)
 obtain ⟨v1, v2, v3, v4⟩ := rowV_head (hl3 (by simp))
 simp only [List.length_cons] at hl1
 by_cases h1 : M (.status (sl h)) = s
 ·rcases r with _ | ⟨j2, r2⟩
  ·simp only [List.length_nil] at hl1
   exact lg (.wLeave h k false .look 0) zbJ (fun _ => ⟨_, List.dropLast_sublist _, _, _, _, _, _, _, rfl, _, _, _, _, _, _, _, _, _, _, _, _, rfl, rfl⟩) (by simp [*]) (by simp [fo, *]) fun _ => rfl
  ·simp only [List.length_cons] at hl1
   obtain ⟨q1, q2, q3⟩ := rowV_next (cap := cap) (hl3 (by simp)) (by omega)
   exact lw (.wJoin h k n j2 r2 .look) zbI (fun _ => by simp only [fo, *]; exact ⟨_, _, _, _, _, _, _, _, _, _, _, _, _, rfl, rfl, ⟨by simp only [List.length_cons]; omega, by omega, fun _ => q3⟩⟩) (by simp [*]) (by repeat' first | exact trivial | with_reducible apply ac | with_reducible apply aq | (simp only [fo, *] <;> (try simp [*]) <;> omega) | (simp [fo, hM.lt, *]; done) | (simp [fo, *]; omega) | exact q1) (fun _ => rfl) rfl
 ·exact lw (.wOwn h k n j r .look) zbK (fun gs => by (try simp only [fo, v1, v2, v3, List.getD_cons_zero, Nat.add_zero, h1]); exact ⟨_, _, _, _, _, _, _, _, _, _, _, _, _, rfl, rfl, ⟨by simpa using hl1, hl2, hl3⟩⟩) (by simp [*]) (by simp [fo, *]) (fun _ => rfl) rfl
theorem w_wLeave_stay_look {h k : Nat} {e : Int} : W0 c mb wb t id d vp a1 a2 a3 M cnt X (.wLeave h k false .look e) := by
 rintro ⟨b1, b2⟩ ⟨rb, xb, n, w, en, ri, ot, jo, ow, lb, sv, b, rfl, rfl⟩
 obtain ⟨⟨kb, _⟩, _, _, k3, _, k5, _⟩ := tk2 b1
 exact lw (.wLeave h k false (.swap (M (.status (sl h)))) e) zbL (fun _ => ⟨_, _, _, _, _, _, _, _, _, _, _, _, rfl, ⟨rfl, rfl⟩⟩) rfl (by simp [fo, *]) (fun _ => rfl) rfl
theorem w_wLeave_stay_swap {h k s : Nat} {e : Int} : W0 c mb wb t id d vp a1 a2 a3 M cnt X (.wLeave h k false (.swap s) e) := by
 rintro ⟨b1, b2⟩ ⟨rb, xb, n, w, en, ri, ot, jo, ow, lb, sv, b, rfl, ⟨rfl, rfl⟩⟩
 obtain ⟨⟨kb, _⟩, _, _, k3, _, k5, _⟩ := tk2 b1
 simp only [eOK, jOK] at b2
 by_cases h1 : M (.status (sl h)) = s
 ·exact lv .w ⟨e, 0, 0⟩ zbM (fun _ => ⟨rfl, rfl, _, _, _, _, _, _, _, _, _, _, _, rfl⟩) (by simp [*]) (by simp [fo, *]) (fun _ => by simp only [fo]; rfl) rfl
 ·exact lw (.wLeave h k false .look e) zbN (fun _ => by simp only [fo, *]; exact ⟨_, _, _, _, _, _, _, _, _, _, _, _, rfl, rfl⟩) (by simp [*]) (by simp [fo, *]) (fun _ => by simp only [fo]; rfl) rfl
theorem w_wLeave_abort_look {h k : Nat} {e : Int} : W0 c mb wb t id d vp a1 a2 a3 M cnt X (.wLeave h k true .look e) := by
 rintro ⟨b1, b2⟩ ⟨rb, xb, n, w, en, ri, ot, jo, ow, lb, sv, b, rfl, rfl⟩
 obtain ⟨⟨kb, _⟩, _, _, k3, _, k5, _⟩ := tk2 b1
 exact lw (.wLeave h k true (.swap (M (.status (sl h)))) e) zbO (fun _ => ⟨_, _, _, _, _, _, _, _, _, _, _, _, rfl, ⟨rfl, rfl⟩⟩) rfl (by simp [fo, *]) (fun _ => rfl) rfl
theorem w_wLeave_abort_swap {h k s : Nat} {e : Int} : W0 c mb wb t id d vp a1 a2 a3 M cnt X (.wLeave h k true (.swap s) e) := by
 rintro ⟨b1, b2⟩ ⟨rb, xb, n, w, en, ri, ot, jo, ow, lb, sv, b, rfl, ⟨rfl, rfl⟩⟩
 obtain ⟨⟨kb, _⟩, _, _, k3, _, k5, _⟩ := tk2 b1
 simp only [eOK, jOK] at b2
 by_cases h1 : M (.status (sl h)) = s
 ·exact lv .w ⟨e, 0, 0⟩ zbP (fun _ => ⟨rfl, rfl, _, _, _, _, _, _, _, _, _, _, _, rfl⟩) (by simp [*]) (by simp [fo, *]) (fun _ => rfl) rfl
 ·exact lw (.wLeave h k true .look e) zbQ (fun _ => by simp only [fo, *]; exact ⟨_, _, _, _, _, _, _, _, _, _, _, _, rfl, rfl⟩) (by simp [*]) (by simp [fo, *]) (fun _ => rfl) rfl
end Go.Proofs.YtfinmiakbpmjiaaGreat.Um
