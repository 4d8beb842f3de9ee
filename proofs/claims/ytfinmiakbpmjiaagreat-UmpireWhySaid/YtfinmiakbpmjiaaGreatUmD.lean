/-
  A Begin, state by state.
-/
import Derived.Test.YtfinmiakbpmjiaaGreatUmA
import Derived.Test.YtfinmiakbpmjiaaGreatSoA
set_option linter.unusedSimpArgs false
set_option linter.unusedVariables false
namespace Go.Proofs.YtfinmiakbpmjiaaGreat.Um
open Go Go.RowKit Go.Proofs.YtfinmiakbpmjiaaGreat Go.Proofs.YtfinmiakbpmjiaaGreat.Ax
theorem st_fold (w : Nat) : St.numW w 27 3 = stOf w := rfl
theorem gn_fold (w : Nat) : St.numW w 30 32 = gnOf w := rfl
theorem bz_fold (w : Nat) : w.testBit 26 = bz w := rfl
theorem low8_f (w : Nat) : St.low8 ((stOf w : Nat) : Int) = stOf w := low8_st w
theorem low8_5 : St.low8 5 = 5 := by decide
theorem st_mv (s : Nat) (b : Bool) : stOf (St.moveN s (stOf s) b) = stOf s := st_move s _ b (stOf_lt s)
theorem rowA0 {w : Nat} {k : Int} {i j : Nat} {r : List Nat} (h : otherN w k i = j :: r) : RowA r (((j :: r)).map fun j : Nat => (j : Int)) 0 := by
 have h1 : (otherN w k i).length ≤ 12 := Nat.le_trans (List.length_filter_le _ _) (by simp)
 rw [h] at h1
 refine ⟨0, rfl, by simpa using h1, by simp, by simp⟩
theorem rowA_next {j : Nat} {r : List Nat} {l : List Int} {a : Nat} (h : l.drop (a + 1) = (j :: r).map fun j : Nat => (j : Int)) : a + 1 < l.length ∧ l.getD (a + 1) 0 = (j : Int) ∧ l.drop (a + 1 + 1) = r.map fun j : Nat => (j : Int) := by
 have h1 : a + 1 < l.length := by
  have := congrArg List.length h
  simp at this
  omega
 refine ⟨h1, ?_, ?_⟩
 ·have := congrArg (fun x => x.getD 0 0) h
  simp only [List.map_cons, List.getD_cons_zero] at this
  rw [← this]
  simp [List.getD_eq_getElem?_getD]
 ·have := congrArg List.tail h
  simpa using this
theorem rowA_end {l : List Int} {a : Nat} (h : l.drop (a + 1) = ([] : List Nat).map fun j : Nat => (j : Int)) : l.length ≤ a + 1 := by
 simpa using h
theorem tk2 {c : Cfg} {h : Nat} (k : tk c h) : (Ti.ofB (h : Int) c.S = true ∧ h < 18446744073709551616) ∧ 1 ≤ h % 16 ∧ h % 16 ≤ 12 ∧ (sl h : Int) < c.S ∧ h / 16 ≤ 1073741823 ∧ Ti.genOf (h : Int) = ((h / 16 : Nat) : Int) ∧ (h % 16 : Nat) = sl h + 1 := ⟨k, tk_of k⟩
section
variable {c : Cfg} {mb wb t id d : Nat} {vp a1 a2 a3 : Value} {M : Mm} {cnt : Nat} {X X1 : List Blk}
def W0 (c : Cfg) (mb wb t id d : Nat) (vp a1 a2 a3 : Value) (M : Mm) (cnt : Nat) (X : List Blk) (m : Mach) : Prop := mOK c id m → MForm c id d m X → WS c mb wb t id d vp a1 a2 a3 M cnt m X
def W1 (c : Cfg) (mb wb t id d : Nat) (vp a1 a2 a3 : Value) (M : Mm) (cnt : Nat) (X : List Blk) (m : Mach) : Prop := mOK c id m → MForm c id d m X → ∃ X0 X1, X = X0 ++ X1 ∧ WSF c mb wb t id d vp a1 a2 a3 M cnt m X0 X1
theorem ac {p : Prop} {l : List Prop} (h : p) (k : all l) : all (p :: l) := ⟨h, k⟩
theorem aq {c : Cfg} {n : Nat} {x : Int} {f : Nat → Spot} {l : List Prop} (h1 : x = ((x.toNat : Nat) : Int)) (h2 : Spot.ok c (f x.toNat)) (h3 : n < 1000000000) (k : all l) : all (A3 c n x f l) := ⟨h1, h2, h3, k⟩
theorem U_iff (n : Nat) : U n ↔ n < 18446744073709551616 := ⟨fun h => by have := h.2; omega, fun h => u64 h⟩
theorem fo : (∀ w, St.numW w 27 3 = stOf w) ∧ (∀ w, St.numW w 30 32 = gnOf w) ∧ (∀ w : Nat, w.testBit 26 = bz w) ∧ (∀ w, St.low8 ((stOf w : Nat) : Int) = stOf w) ∧ St.low8 5 = 5 ∧ (∀ s b, stOf (St.moveN s (stOf s) b) = stOf s) ∧ (∀ n : Nat, (n : Int).toNat = n) ∧ (∀ n, C9 n = (n < 1000000000)) ∧ (∀ c h b, T0 c h b = ((!Ti.ofB (h : Int) c.S) = b)) ∧ (∀ c h b, T1 c h b = ((!!Ti.ofB (h : Int) c.S) = b)) ∧ (∀ w h b, Ge w h b = ((((gnOf w : Nat) : Int) != Ti.genOf (h : Int)) = b)) ∧ (∀ w k b, Se w k b = ((((stOf w : Nat) : Int) == k) = b)) ∧ (∀ w s b, De w s b = (decide (w = s) = b)) ∧ (∀ w b, Bz w b = (bz w = b)) ∧ (∀ n, N0 n = ((0 : Int) ≤ (n : Int))) ∧ (∀ (a e : Int) (l : List Int), (a :: l).getD 0 e = a) ∧ (∀ n : Nat, n + 0 = n) ∧ (∀ (j : Nat) (r : List Nat), (j :: r).map (fun j : Nat => (j : Int)) = (j : Int) :: r.map fun j : Nat => (j : Int)) ∧ ([] : List Nat).map (fun j : Nat => (j : Int)) = [] ∧ (∀ (a : Int) (l : List Int), (a :: l).isEmpty = false) ∧ ([] : List Int).isEmpty = true := ⟨st_fold, gn_fold, bz_fold, low8_f, low8_5, st_mv, Int.toNat_natCast, fun _ => rfl, fun _ _ _ => rfl, fun _ _ _ => rfl, fun _ _ _ => rfl, fun _ _ _ => rfl, fun _ _ _ => rfl, fun _ _ => rfl, fun _ => rfl, fun _ _ _ => rfl, fun _ => rfl, fun _ _ => rfl, rfl, fun _ _ => rfl, rfl⟩
theorem lg {m : Mach} (m' : Mach) {cs : List Prop} {ph : Nat} {bl : (Nat → Nat) → List Blk} {mm : (Nat → Nat) → Mm} (hs : all cs → S4 c t (id : Int) d M cnt ⟨mb, wb, vp, a1, a2, a3⟩ m.kd.ty ph X bl mm) (hB : ∀ gs, ∃ B, List.Sublist B (thB c t (id : Int) (mv ph t) vp (.iface m.kd.ty (pt d)) a1 a2 a3 :: bl gs) ∧ TForm c t id (goesOn m') B) (he : (mstep c id M m).2 = m') (hc : all cs) (hm : ∀ gs, mm gs = upd M (mstep c id M m).1.1 (mstep c id M m).1.2) : WS c mb wb t id d vp a1 a2 a3 M cnt m X := by
 refine Steps1.mono (hs hc) ?_
 rintro hp' M' ⟨gs, rfl, rfl⟩
 exact ⟨by rw [he]; exact hB gs, hm gs⟩
theorem lg2 {m : Mach} (m' : Mach) {cs : List Prop} {bl bk : (Nat → Nat) → List Blk} {mm : (Nat → Nat) → Mm} (hs : all cs → Steps1 c mb wb t (thB c t (id : Int) (mv 124 t) vp (.iface m.kd.ty (pt d)) a1 a2 a3 :: X) M cnt fun hp' M' => ∃ gs, (hp' = bl gs ∨ hp' = bk gs) ∧ M' = mm gs) (hB : ∀ gs, ∃ B, List.Sublist B (bl gs) ∧ TForm c t id (goesOn m') B) (hK : ∀ gs, ∃ B, List.Sublist B (bk gs) ∧ TForm c t id (goesOn m') B) (he : (mstep c id M m).2 = m') (hc : all cs) (hm : ∀ gs, mm gs = upd M (mstep c id M m).1.1 (mstep c id M m).1.2) : WS c mb wb t id d vp a1 a2 a3 M cnt m X := by
 refine Steps1.mono (hs hc) ?_
 rintro hp' M' ⟨gs, h | h, rfl⟩ <;> subst h
 ·exact ⟨by rw [he]; exact hB gs, hm gs⟩
 ·exact ⟨by rw [he]; exact hK gs, hm gs⟩
theorem lgF {m : Mach} (m' : Mach) {cs : List Prop} {ph : Nat} {bl : (Nat → Nat) → List Blk} {mm : (Nat → Nat) → Mm} (hs : all cs → S4 c t (id : Int) d M cnt ⟨mb, wb, vp, a1, a2, a3⟩ m.kd.ty ph X bl mm) (hB : ∀ gs, ∃ B, List.Sublist B (thB c t (id : Int) (mv ph t) vp (.iface m.kd.ty (pt d)) a1 a2 a3 :: bl gs ++ X1) ∧ TForm c t id (goesOn m') B) (he : (mstep c id M m).2 = m') (hc : all cs) (hm : ∀ gs, mm gs = upd M (mstep c id M m).1.1 (mstep c id M m).1.2) : WSF c mb wb t id d vp a1 a2 a3 M cnt m X X1 := by
 refine Steps1.mono (hs hc) ?_
 rintro hp' M' ⟨gs, rfl, rfl⟩
 exact ⟨by rw [he]; exact hB gs, hm gs⟩
theorem lw {m : Mach} (m' : Mach) {cs : List Prop} {bl : (Nat → Nat) → List Blk} {mm : (Nat → Nat) → Mm} (hs : all cs → S4 c t (id : Int) d M cnt ⟨mb, wb, vp, a1, a2, a3⟩ m.kd.ty 124 X bl mm) (hB : ∀ gs, MForm c id d m' (bl gs)) (he : (mstep c id M m).2 = m') (hc : all cs) (hm : ∀ gs, mm gs = upd M (mstep c id M m).1.1 (mstep c id M m).1.2) (hg : (goesOn m', m'.kd.ty) = (.work m', m.kd.ty)) : WS c mb wb t id d vp a1 a2 a3 M cnt m X := by
 have h1 : goesOn m' = .work m' := congrArg Prod.fst hg
 have h2 : m'.kd.ty = m.kd.ty := congrArg Prod.snd hg
 refine lg m' hs (fun gs => ⟨_, .refl _, ?_⟩) he hc hm
 rw [h1]
 exact ⟨vp, d, a1, a2, a3, bl gs, by rw [h2], hB gs⟩
theorem lv (k : Kd) (a : Ans) {m : Mach} {cs : List Prop} {bl : (Nat → Nat) → List Blk} {mm : (Nat → Nat) → Mm} (hs : all cs → S4 c t (id : Int) d M cnt ⟨mb, wb, vp, a1, a2, a3⟩ m.kd.ty 125 X bl mm) (hB : ∀ gs, doneF c id d k a (bl gs)) (he : (mstep c id M m).2 = .done k a) (hc : all cs) (hm : ∀ gs, mm gs = upd M (mstep c id M m).1.1 (mstep c id M m).1.2) (hg : k.ty = m.kd.ty) : WS c mb wb t id d vp a1 a2 a3 M cnt m X := by
 refine lg (.done k a) hs (fun gs => ⟨_, .refl _, ?_⟩) he hc hm
 exact ⟨vp, d, a1, a2, a3, bl gs, by rw [hg], hB gs⟩
end
theorem mvlt {s : Nat} (b : Bool) (h : s < 18446744073709551616) : St.moveN s (St.low8 ((St.numW s 27 3 : Nat) : Int)) b < 18446744073709551616 := St.moveN_lt b h (St.low8_lt _)
theorem nz_f (n : Nat) : (((n : Nat) : Int) != 0) = nzb n := by
 unfold nzb
 by_cases h : n = 0
 ·subst h; rfl
 ·have : (n : Int) ≠ 0 := by omega
  rw [bne_iff_ne.2 this, decide_eq_true h]
theorem pend {w : Nat} (h : 1 ≤ w % 16) : (((w % 16 : Nat) : Int) - 1).toNat = w % 16 - 1 := by omega
variable {c : Cfg} {mb wb t id d : Nat} {vp a1 a2 a3 : Value} {M : Mm} {cnt : Nat} {X : List Blk} (hr : 1 ≤ c.T ∧ c.T ≤ 8 ∧ 1 ≤ c.S ∧ c.S ≤ 12 ∧ 1 ≤ c.K ∧ c.K ≤ 8 ∧ 0 ≤ c.L ∧ c.L ≤ 1073741823 ∧ 0 ≤ c.Q ∧ c.Q ≤ 1099511627775) (hM : MemOK c M) (hn : cnt < 1000000000) (hid : (id : Int) < c.T)
include hr hM hn hid
set_option linter.unusedSectionVars false
attribute [local simp] mstep estep hstep lstep jstep jjudge ostep ld cas oGoes rFound rNext wFound wNext wGoes sAges sGraces sGoes sKey sOther n0 seen4 U_iff Spot.ok mvlt others_eq MemOK.lt all A3
theorem w_oLook {i : Nat} : W0 c mb wb t id d vp a1 a2 a3 M cnt X (.oLook i) := by
 rintro b1 ⟨nb, s, q, aid, rfl⟩
 simp only [mOK] at b1
 have w1 : IntKind.i64.wrap ((i : Int) + 1) = ((i + 1 : Nat) : Int) := wrap1 (by omega)
 by_cases h1 : stOf (M (.status i)) = 0
 ·by_cases h2 : c.L < (gnOf (M (.status i)) : Int)
  ·by_cases h3 : (i : Int) + 1 < c.S
   ·exact lw (.oLook (i + 1)) za2 (fun _ => by simp only [fo, *]; exact ⟨_, _, _, _, rfl⟩) (by simp [*]) (by simp [fo, hM.lt, *]) (fun _ => rfl) rfl
   ·exact lv .o ⟨6, 0, 0⟩ za3 (fun _ => ⟨_, _, _, _, _, _, rfl⟩) (by simp [*]) (by simp [fo, hM.lt, *]; omega) (fun _ => rfl) rfl
  ·exact lw (.oTake i (M (.status i))) za4 (fun _ => ⟨_, _, _, rfl⟩) (by simp [*]) (by simp [fo, hM.lt, *]) (fun _ => rfl) rfl
 ·by_cases h2 : (i : Int) + 1 < c.S
  ·exact lw (.oLook (i + 1)) za0 (fun _ => by simp only [fo, *]; exact ⟨_, _, _, _, rfl⟩) (by simp [*]) (by simp [fo, hM.lt, *]) (fun _ => rfl) rfl
  ·exact lv .o ⟨6, 0, 0⟩ za1 (fun _ => ⟨_, _, _, _, _, _, rfl⟩) (by simp [*]) (by simp [fo, hM.lt, *]; omega) (fun _ => rfl) rfl
theorem w_oTake {i s : Nat} : W0 c mb wb t id d vp a1 a2 a3 M cnt X (.oTake i s) := by
 rintro ⟨b1, b2⟩ ⟨nb, q, aid, rfl⟩
 have w1 : IntKind.i64.wrap ((i : Int) + 1) = ((i + 1 : Nat) : Int) := wrap1 (by omega)
 by_cases h1 : M (.status i) = s
 ·exact lw (.oTally i s) za5 (fun _ => ⟨_, _, _, rfl⟩) (by simp [*]) (by simp [fo, *]) (fun _ => rfl) rfl
 ·by_cases h2 : (i : Int) + 1 < c.S
  ·exact lw (.oLook (i + 1)) za6 (fun _ => by simp only [fo, *]; exact ⟨_, _, _, _, rfl⟩) (by simp [*]) (by simp [fo, *]) (fun _ => rfl) rfl
  ·exact lv .o ⟨6, 0, 0⟩ za7 (fun _ => ⟨_, _, _, _, _, _, rfl⟩) (by simp [*]) (by simp [fo, *]; omega) (fun _ => rfl) rfl
theorem w_oTally {i s : Nat} : W0 c mb wb t id d vp a1 a2 a3 M cnt X (.oTally i s) := by
 rintro ⟨b1, b2⟩ ⟨nb, q, aid, rfl⟩
 by_cases h1 : 1 ≤ M .tally % 16
 ·exact lw (.oHelp i s (M .tally) .number) za9 (fun _ => ⟨_, _, _, _, _, rfl, rfl⟩) (by simp [*]) (by simp [fo, hM.lt, *]; omega) (fun _ => rfl) rfl
 ·exact lw (.oNote i s (M .tally / 16)) za8 (fun _ => ⟨_, _, rfl⟩) (by simp [*]) (by simp [fo, hM.lt, *]; omega) (fun _ => rfl) rfl
theorem w_oHelp_number {i s w : Nat} : W0 c mb wb t id d vp a1 a2 a3 M cnt X (.oHelp i s w .number) := by
 rintro ⟨b1, b2, b3⟩ ⟨nb, q, hb, hs, hv, rfl, rfl⟩
 have hp1 := pend (w := w) b3.1
 have hp2 : ((w % 16 - 1 : Nat) : Int) < c.S := by have := b3.1; have := b3.2.1; omega
 have hp0 : 1 ≤ w % 16 := b3.1
 have hp3 : w < 18446744073709551616 := b3.2.2.1
 exact lw (.oHelp i s w .look) zaa (fun _ => ⟨_, _, _, _, _, rfl, rfl⟩) rfl (by simp [fo, *]; omega) (fun _ => by simp only [fo, *]; rfl) rfl
theorem w_oHelp_look {i s w : Nat} : W0 c mb wb t id d vp a1 a2 a3 M cnt X (.oHelp i s w .look) := by
 rintro ⟨b1, b2, b3⟩ ⟨nb, q, hb, hs, hv, rfl, rfl⟩
 have hp1 := pend (w := w) b3.1
 have hp2 : ((w % 16 - 1 : Nat) : Int) < c.S := by have := b3.1; have := b3.2.1; omega
 have hp0 : 1 ≤ w % 16 := b3.1
 have hp3 : w < 18446744073709551616 := b3.2.2.1
 by_cases h1 : stOf (M (.status (w % 16 - 1))) = 3
 ·exact lw (.oHelp i s w (.lay (M (.status (w % 16 - 1))))) zab (fun _ => by simp only [fo, *]; exact ⟨_, _, _, _, _, rfl, ⟨rfl, rfl⟩⟩) (by simp [*]) (by simp only [all, A3, fo, *]; simp [hM.lt, *]; omega) (fun _ => by simp only [fo, *]; rfl) rfl
 ·exact lw (.oHelp i s w .settle) zac (fun _ => ⟨_, _, _, _, _, rfl, rfl⟩) (by simp [*]) (by simp only [all, A3, fo, *]; simp [hM.lt, *]; omega) (fun _ => by simp only [fo, *]; rfl) rfl
theorem w_oHelp_lay {i s w s2 : Nat} : W0 c mb wb t id d vp a1 a2 a3 M cnt X (.oHelp i s w (.lay s2)) := by
 rintro ⟨b1, b2, b3⟩ ⟨nb, q, hb, hs, hv, rfl, ⟨rfl, rfl⟩⟩
 have hp1 := pend (w := w) b3.1
 have hp2 : ((w % 16 - 1 : Nat) : Int) < c.S := by have := b3.1; have := b3.2.1; omega
 have hp0 : 1 ≤ w % 16 := b3.1
 have hp3 : w < 18446744073709551616 := b3.2.2.1
 have hp4 : s2 < 18446744073709551616 := b3.2.2.2 s2 rfl
 by_cases h1 : M (.status (w % 16 - 1)) = s2
 ·exact lw (.oHelp i s w .settle) zad (fun _ => ⟨_, _, _, _, _, rfl, rfl⟩) (by simp [*]) (by simp only [all, A3, fo, *]; simp [hM.lt, *]; omega) (fun _ => by first | rfl | (simp only [fo, hp1]; rfl)) rfl
 ·exact lw (.oHelp i s w .look) zae (fun _ => ⟨_, _, _, _, _, rfl, rfl⟩) (by simp [*]) (by simp only [all, A3, fo, *]; simp [hM.lt, *]; omega) (fun _ => by first | rfl | (simp only [fo, hp1]; rfl)) rfl
theorem w_oHelp_settle {i s w : Nat} : W0 c mb wb t id d vp a1 a2 a3 M cnt X (.oHelp i s w .settle) := by
 rintro ⟨b1, b2, b3⟩ ⟨nb, q, hb, hs, hv, rfl, rfl⟩
 have hp1 := pend (w := w) b3.1
 have hp2 : ((w % 16 - 1 : Nat) : Int) < c.S := by have := b3.1; have := b3.2.1; omega
 have hp0 : 1 ≤ w % 16 := b3.1
 have hp3 : w < 18446744073709551616 := b3.2.2.1
 exact lw (.oTally i s) zaf (fun _ => ⟨_, _, _, rfl⟩) rfl (by simp [fo, *]; omega) (fun _ => rfl) rfl
theorem w_oNote {i s q : Nat} : W0 c mb wb t id d vp a1 a2 a3 M cnt X (.oNote i s q) := by
 rintro ⟨b1, b2, b3⟩ ⟨nb, aid, rfl⟩
 exact lw (.oStart i s q) zag (fun _ => ⟨_, _, rfl⟩) rfl (by simp [fo, *]) (fun _ => rfl) rfl
theorem w_oStart {i s q : Nat} : W0 c mb wb t id d vp a1 a2 a3 M cnt X (.oStart i s q) := by
 rintro ⟨b1, b2, b3⟩ ⟨nb, aid, rfl⟩
 exact lv .o ⟨0, makeN (i : Int) (gnOf s : Int), q⟩ zah (fun _ => ⟨_, _, _, _, _, _, rfl⟩) rfl (by simp [fo, *]) (fun _ => rfl) rfl
end Go.Proofs.YtfinmiakbpmjiaaGreat.Um
