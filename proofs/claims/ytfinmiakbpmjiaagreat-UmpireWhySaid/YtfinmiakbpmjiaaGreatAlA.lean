/-
  Runs of the one closed example.
-/
import Derived.Test.YtfinmiakbpmjiaaGreatWoK
set_option linter.unusedSimpArgs false
set_option linter.unusedVariables false
set_option maxRecDepth 100000
namespace Go.Proofs.YtfinmiakbpmjiaaGreat.Ay
open Go Go.RowKit Go.Proofs.YtfinmiakbpmjiaaGreat
open Go.Proofs.YtfinmiakbpmjiaaGreat.Ax (pt vi vu)
def ext0 : Ext side0 Tryz.prog := extOf side0 [] (by simp)
def evc (t kd : Int) (h : Nat) (k e : Int) (ah an : Nat) (bg en : Int) : List Value := [vi t, vi kd, vu h, vi k, vi e, vu ah, vu an, vi bg, vi en, .bool true]
def evsA : Array Value := ([evc 0 1 0 0 0 1 0 1 8, evc 0 1 0 0 0 2 0 9 17, evc 0 2 1 0 0 0 0 18 27, evc 0 3 2 0 0 0 0 28 41, evc 0 4 2 0 0 0 1 42 56, evc 0 4 1 0 0 0 2 57 71].flatten).toArray
theorem runs0 {f : FuncId} {args : Array Value} {hp : List Blk} {R : Value → List Blk → Unit → Prop} (h : RunsY side0 f args hp () R) {w : World} (hh : Has w hp) :
  Calls Tryz.prog f args w fun en w' => ∃ v hp', en = .returned v ∧ R v hp' () ∧ Has w' hp' ∧ Only (hp.map (·.b)) w w' ∧ ∀ x ∈ hp', x.b ∈ hp.map (·.b) ∨ w.heap.size ≤ x.b := by
 refine (h (hp.map (·.b)) w w ⟨hh, ⟨[], rfl, by simp, by simp⟩, .of (Below.refl _ _), fun x hx => .inl (List.mem_map.2 ⟨x, hx, rfl⟩), by simp, by simp⟩).mono ?_
 rintro en w' ⟨v, hp', e', rfl, hR, hr⟩
 exact ⟨v, hp', rfl, hR, hr.has, hr.only, hr.own⟩
theorem life1_run (b cap : Nat) : RunsY side0 18 #[.slice (some ⟨b, 0, none⟩) 6 cap, vu 1] [⟨b, .vals evsA, 70⟩] () fun v hp' _ => ∃ r rc : Nat, v = .agg #[vi 1, vi 71, .slice (some ⟨r, 0, none⟩) 1 rc, .slice none 0 0] ∧ hp' = [⟨b, .vals evsA, 70⟩, ⟨r, .own #[vi 0] rc 1, 3⟩] :=
 runsY_of ext0 [3,199,0,0,0,0,0,0,0,0,0,0,3,3,3,3,3,3,3,3,3,3,3,3,3,3,199,3,3,3,3,3,3,199,3,3,3,3,3,3,3,199,3,3,3,199,3,3,3,2,3,2,2,199,2,2,3,2,2,199,2,2,3,199,0,0,0,0,0,0,0,0,0,0,4,4,4,4,4,4,4,4,4,4,4,3,3,4,199,3,3,3,3,4,3,199,3,3,3,3,4,3,3,199,3,2,2,199,2,2,4,3,3,3,3,3,199,3,3,3,199,0,0,0,0,0,0,0,0,0,0,5,5,5,5,5,5,5,5,5,5,5,2,2,199,2,2,2,2,2,199,2,2,2,2,2,2,199,2,2,2,199,2,2,5,2,2,2,5,2,2,199,2,2,5,5,5,5,5,5,5,5,5,5,6,3,3,3,3,199,7,7,8,6,2,2,2,2,2,2,199,2,2,3,199,7,7,9,6,2,2,2,2,2,2,199,2,2,3,199,7,7,10,6,3,3,10,3,3,3,6,3,2,2,199,2,199,3,2,3,199,7,7,11,6,2,2,2,2,2,2,199,2,2,2,199,3,2,2,199,2,2,5,3,5,5,5,5,5,5,5,5,5,5,3,12,3,3,12,3,3,2,2,2,12,2,3,199,2,3,3,3,3,3,3,199,3,199,3,199,3,3,2,5,0,0,13,2,5,2,2,199,2,2,3,199,0,0,0,0,0,0,0,0,0,0,15,15,15,15,15,15,15,15,15,15,15,2,2,199,2,2,2,2,2,199,2,2,2,2,2,2,199,2,2,2,199,2,2,15,2,2,2,15,2,2,199,2,3,3,199,0,0,0,0,0,0,0,0,0,0,16,16,16,16,16,16,16,16,16,16,16,2,2,199,2,2,2,2,2,199,2,2,2,2,2,2,199,2,2,2,199,2,2,16,2,2,2,16,2,2,199,2,3,3,199,0,0,0,0,0,0,0,0,0,0,17,17,17,17,17,17,17,17,17,17,17,2,2,199,2,2,2,2,2,199,2,2,2,2,2,2,199,2,2,2,199,2,2,17,2,2,2,17,2,2,199,2,2,17,17,17,17,17,17,17,17,17,17,18,3,3,3,3,199,19,19,20,18,3,3,20,3,3,3,18,3,3,3,199,3,3,3,199,3,199,3,3,199,3,3,3,199,3,3,17,2,17,2,2,199,2,2,17,2,2,199,2,2,2,7,0,0,4,2,12,16,2,9,2,2,2,2,3,2,3,24,21,2,2,2,2,3,2,3,29,2,34,37,2,2,2,2,2,1,1,1,1,1,1,1,1] [0,14] (fun gs => .agg #[vi 1, vi 71, .slice (some ⟨gs 13, 0, none⟩) 1 (1 + gs 14), .slice none 0 0]) (fun gs => [⟨b, .vals evsA, 70⟩, ⟨gs 13, .own #[vi 0] (1 + gs 14) 1, 3⟩]) (fun _ => ()) (fun _ => [(0 : Int) ≤ 0, (0 : Int) < 6, (0 : Int) ≤ 1, (1 : Int) < 6, (0 : Int) ≤ 2, (2 : Int) < 6, (0 : Int) ≤ 0, (0 : Int) < 4, (0 : Int) ≤ 1, (1 : Int) < 4, (0 : Int) ≤ 2, (2 : Int) < 4, (0 : Int) ≤ 3, (3 : Int) < 4, (0 : Int) ≤ 3, (3 : Int) < 6, (0 : Int) ≤ 4, (4 : Int) < 6, (0 : Int) ≤ 5, (5 : Int) < 6, (0 : Int) ≤ 0, (0 : Int) < 4]) (fun br gs => by kernel_rfl) (by decide) (fun _ => by simp [all]) fun gs => ⟨gs 13, 1 + gs 14, rfl, rfl⟩
theorem life2_run (b cap : Nat) : RunsY side0 18 #[.slice (some ⟨b, 0, none⟩) 6 cap, vu 2] [⟨b, .vals evsA, 70⟩] () fun v hp' _ => ∃ r rc : Nat, v = .agg #[vi 9, vi 56, .slice none 0 0, .slice (some ⟨r, 0, none⟩) 1 rc] ∧ hp' = [⟨b, .vals evsA, 70⟩, ⟨r, .own #[vi 0] rc 1, 3⟩] :=
 runsY_of ext0 [3,199,0,0,0,0,0,0,0,0,0,0,3,3,3,3,3,3,3,3,3,3,3,3,3,3,199,3,3,3,3,3,3,199,3,3,3,3,3,3,3,199,3,2,2,199,2,2,3,3,3,3,3,3,199,3,3,3,199,0,0,0,0,0,0,0,0,0,0,4,4,4,4,4,4,4,4,4,4,4,3,3,4,199,3,3,3,3,4,3,199,3,3,3,3,4,3,3,199,3,3,3,199,3,3,4,2,4,2,2,199,2,2,4,2,2,199,2,2,3,199,0,0,0,0,0,0,0,0,0,0,5,5,5,5,5,5,5,5,5,5,5,2,2,199,2,2,2,2,2,199,2,2,2,2,2,2,199,2,2,2,199,2,2,5,2,2,2,5,2,2,199,2,3,3,199,0,0,0,0,0,0,0,0,0,0,6,6,6,6,6,6,6,6,6,6,6,2,2,199,2,2,2,2,2,199,2,2,2,2,2,2,199,2,2,2,199,2,2,6,2,2,2,6,2,2,199,2,2,6,6,6,6,6,6,6,6,6,6,7,3,3,3,3,199,8,8,9,7,2,2,2,2,2,2,199,2,2,3,199,8,8,10,7,2,2,2,2,2,2,199,2,2,3,199,8,8,11,7,2,2,2,2,2,2,199,2,2,3,199,8,8,12,7,3,3,12,3,3,3,7,3,2,2,199,2,199,3,2,2,199,3,2,2,199,2,2,6,2,2,199,2,2,6,3,6,6,6,6,6,6,6,6,6,6,3,13,3,3,13,3,3,2,2,2,13,2,3,199,2,3,3,3,3,3,3,199,3,199,3,199,3,3,2,6,0,0,14,2,3,199,0,0,0,0,0,0,0,0,0,0,16,16,16,16,16,16,16,16,16,16,16,2,2,199,2,2,2,2,2,199,2,2,2,2,2,2,199,2,2,2,199,2,2,16,2,2,2,16,2,2,199,2,2,16,16,16,16,16,16,16,16,16,16,17,3,3,3,3,199,18,18,19,17,3,3,19,3,3,3,17,3,3,3,199,3,3,3,199,3,199,3,3,199,3,3,3,199,3,3,16,2,16,2,2,199,2,2,16,2,2,199,2,2,3,199,0,0,0,0,0,0,0,0,0,0,20,20,20,20,20,20,20,20,20,20,20,2,2,199,2,2,2,2,2,199,2,2,2,2,2,2,199,2,2,2,199,2,2,20,2,2,2,20,2,2,199,2,3,2,7,0,0,4,2,12,16,2,9,2,2,2,2,3,2,3,24,21,2,2,2,2,3,2,3,29,2,34,37,2,2,2,2,2,1,1,1,1,1,1,1,1] [0,15] (fun gs => .agg #[vi 9, vi 56, .slice none 0 0, .slice (some ⟨gs 14, 0, none⟩) 1 (1 + gs 15)]) (fun gs => [⟨b, .vals evsA, 70⟩, ⟨gs 14, .own #[vi 0] (1 + gs 15) 1, 3⟩]) (fun _ => ()) (fun _ => [(0 : Int) ≤ 0, (0 : Int) < 6, (0 : Int) ≤ 1, (1 : Int) < 6, (0 : Int) ≤ 2, (2 : Int) < 6, (0 : Int) ≤ 3, (3 : Int) < 6, (0 : Int) ≤ 0, (0 : Int) < 4, (0 : Int) ≤ 1, (1 : Int) < 4, (0 : Int) ≤ 2, (2 : Int) < 4, (0 : Int) ≤ 3, (3 : Int) < 4, (0 : Int) ≤ 4, (4 : Int) < 6, (0 : Int) ≤ 0, (0 : Int) < 4, (0 : Int) ≤ 5, (5 : Int) < 6]) (fun br gs => by kernel_rfl) (by decide) (fun _ => by simp [all]) fun gs => ⟨gs 14, 1 + gs 15, rfl, rfl⟩
theorem conf_run (rb wb rc wc : Nat) : RunsY side0 17 #[.agg #[vi 1, vi 71, .slice (some ⟨rb, 0, none⟩) 1 rc, .slice none 0 0], .agg #[vi 9, vi 56, .slice none 0 0, .slice (some ⟨wb, 0, none⟩) 1 wc]] [⟨rb, .own #[vi 0] rc 1, 3⟩, ⟨wb, .own #[vi 0] wc 1, 3⟩] () fun v hp' _ => v = .bool true :=
 runsY_of ext0 [2,2,2,2,3,3,3,3,4,4,4,4,5,5,5,5,6,3,3,6,3,3,7,3,199,3,3,3,5,5,5,5,3,4,4,4,4,3,8,3,3,8,3,3,9,3,199,3,3,199,3,3,3,2,3,3,3,3,3,199,0,10,3,199,1,3,3,199,3] [] (fun gs => .bool true) (fun gs => []) (fun _ => ()) (fun _ => [(0 : Int) ≤ 0, (0 : Int) < 1, (0 : Int) ≤ 0, (0 : Int) < 1]) (fun br gs => by kernel_rfl) (by decide) (fun _ => by simp [all]) fun gs => rfl
def cA : Cfg := ⟨1, 2, 2, 9, 9⟩
theorem cA_right : cA.right := by unfold Cfg.right RightC cA; decide
def spotA : Int → Int → Option Spot
 | 4, 0 => some (.status 0)
 | 4, 1 => some (.status 1)
 | _, _ => none
theorem spotA_ok {kd of : Int} {s : Spot} (h : spotA kd of = some s) : s.ok cA ∧ s.kind = kd ∧ (s.of : Int) = of := by
 unfold spotA at h
 split at h
 ·cases h; exact ⟨by show ((0 : Nat) : Int) < 2; decide, rfl, rfl⟩
 ·cases h; exact ⟨by show ((1 : Nat) : Int) < 2; decide, rfl, rfl⟩
 ·cases h
def isA (v : Value) : Bool := match v with
 | .agg cs => match cs.toList with
  | [.int .i64 a, .int .i64 b, .int .i64 c, .int .i64 d, .int .u64 e] => a == 1 && b == 2 && c == 2 && d == 9 && e == 9
  | _ => false
 | _ => false
theorem isA_ok {v : Value} (h : isA v = true) : v = cA.val := by
 unfold isA at h
 split at h
 ·rename_i cs
  split at h
  ·rename_i a b c d e hcs
   simp only [Bool.and_eq_true, beq_iff_eq] at h
   obtain ⟨⟨⟨⟨rfl, rfl⟩, rfl⟩, rfl⟩, rfl⟩ := h
   rw [Ay.arr_of hcs]
   rfl
  ·cases h
 ·cases h
def lenA : Array Value → St side0.E → Tree (Value × St side0.E) := fun args s => match args.toList with
 | [a] => match isA a with
  | true => .done (vi 13, s)
  | false => .fail
 | _ => .fail
def cellA : Array Value → St side0.E → Tree (Value × St side0.E) := fun args s => match args.toList with
 | [a, .agg cs] => match cs.toList with
  | [.int .i64 kd, .int .i64 of] => match spotA kd of with
   | some x => match isA a with
    | true => .done (vi (x.at cA), s)
    | false => .fail
   | none => .fail
  | _ => .fail
 | _ => .fail
theorem quiet0 {L : List Nat} {w0 w w' : World} {pr : Prot} {PN : List (Nat × Blk)} {s : St side0.E} (hr : Rel side0 L w0 pr PN s w) (hb : Below w.heap.size w w') : Rel side0 L w0 pr PN s w' := by
 obtain ⟨F, hfo⟩ := hr.side
 have h0 : F = [] := hfo.inv
 subst h0
 exact Um.turnD hr hfo (F' := []) rfl (.of hb) (by simp) (by simp) s.orc
theorem lenA_ok : ExtOK side0 56 lenA := by
 intro L w0 pr PN args s w Q h hr
 unfold lenA at h
 split at h
 case h_2 => exact h.elim
 rename_i a hargs
 split at h
 case h_2 => exact h.elim
 rename_i ha
 rw [Ay.arr_of hargs, isA_ok ha]
 refine (Len_yes cA w cA_right).mono ?_
 rintro en w' ⟨rfl, hb⟩
 exact ⟨_, _, rfl, h, quiet0 hr hb⟩
theorem cellA_ok : ExtOK side0 81 cellA := by
 intro L w0 pr PN args s w Q h hr
 unfold cellA at h
 split at h
 ·rename_i a cs hargs
  split at h
  ·rename_i kd of hcs
   split at h
   ·rename_i x hx
    split at h
    case h_2 => exact h.elim
    rename_i ha
    obtain ⟨h1, h2, h3⟩ := spotA_ok hx
    rw [Ay.arr_of hargs, Ay.arr_of hcs, isA_ok ha]
    have := Cell_any cA x w cA_right h1
    rw [h2, h3] at this
    refine this.mono ?_
    rintro en w' ⟨rfl, hb⟩
    exact ⟨_, _, rfl, h, quiet0 hr hb⟩
   ·exact h.elim
  ·exact h.elim
 ·exact h.elim
def extC : Ext side0 Tryz.prog := extOf side0 [(56, lenA), (81, cellA)] (by
 intro p hp
 simp at hp
 rcases hp with rfl | rfl
 ·exact lenA_ok
 ·exact cellA_ok)
def wsA : Array Value := #[vu 32, vu 0, vu 0, vu 536870914, vu 0, vu 2, vu 0, vu 536875008, vu 0, vu 1, vu 0, vu 8193, vu 0]
theorem of_run (b : Nat) : RunsY side0 49 #[cA.val, .slice (some ⟨b, 0, none⟩) 13 13] [⟨b, .vals wsA, 22⟩] () fun v hp' _ => v = .tuple #[.agg #[vi 0, vi 0, vi 2, vi 0], .bool true] :=
 runsY_of extC [1,1,1,1,1,2,2,2,2,199,2,2,1,3,1,1,1,1,1,199,0,19,0,4,4,16,4,24,32,40,52,4,64,4,1,9,9,0,0,4,6,8,12,7,16,20,24,28,32,13,21,9,0,0,4,8,8,12,9,16,20,24,28,32,29,6,0,0,8,4,5,13,9,0,0,4,10,8,12,11,16,20,24,28,32,16,20,37,6,0,0,8,4,5,13,9,0,0,4,12,8,12,13,16,20,24,28,32,16,20,45,6,0,0,8,4,5,13,9,0,0,4,14,8,12,15,16,20,24,28,32,16,20,49,57,9,0,0,4,16,8,12,17,16,20,24,28,32,61,69,9,0,0,4,18,8,12,19,16,20,24,28,32,72,77,5,5,5,5,5,5,5,5,5,5,5,5,5,5,20,20,20,20,20,20,20,20,2,2,2,2,2,199,2,2,20,3,3,3,1,1,1,1,1,199,0,19,0,4,21,16,21,24,32,40,52,21,64,21,1,9,9,0,0,4,23,8,12,24,16,20,24,28,32,13,21,9,0,0,4,25,8,12,26,16,20,24,28,32,29,6,0,0,8,21,5,13,9,0,0,4,27,8,12,28,16,20,24,28,32,16,20,37,6,0,0,8,21,5,13,9,0,0,4,29,8,12,30,16,20,24,28,32,16,20,45,6,0,0,8,21,5,13,9,0,0,4,31,8,12,32,16,20,24,28,32,16,20,49,57,9,0,0,4,33,8,12,34,16,20,24,28,32,61,69,9,0,0,4,35,8,12,36,16,20,24,28,32,72,77,22,22,22,22,22,22,22,22,22,22,22,22,22,22,37,37,37,37,37,37,37,37,2,2,2,2,2,199,2,2,37,3,3,2,3,3,3,3,1,3,2,2,2,2,2,2,2,2] [] (fun gs => .tuple #[.agg #[vi 0, vi 0, vi 2, vi 0], .bool true]) (fun gs => []) (fun _ => ()) (fun _ => [(0 : Int) ≤ 3, (3 : Int) < 13, (0 : Int) ≤ 7, (7 : Int) < 13]) (fun br gs => by kernel_rfl) (by decide) (fun _ => by simp [all]) fun gs => rfl
end Go.Proofs.YtfinmiakbpmjiaaGreat.Ay
