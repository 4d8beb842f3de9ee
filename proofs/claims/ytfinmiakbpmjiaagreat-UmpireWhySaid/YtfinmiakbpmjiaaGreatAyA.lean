/-
  The evaluator once more, with owned rows and maps.
-/
import Derived.Test.YtfinmiakbpmjiaaGreatKit
import Derived.Test.YtfinmiakbpmjiaaGreatChA
import Derived.OrdersHeld
import Derived.Scope
import Derived.LoopN
import Derived.Deep.AppendLies
set_option linter.unusedSimpArgs false
set_option linter.unusedVariables false
namespace Go.Proofs.YtfinmiakbpmjiaaGreat.Ay
open Go
inductive Cells where
 | vals (a : Array Value)
 | ints (l : List Int)
 | win (pre a post : Array Value)
 | own (a : Array Value) (cap size : Nat)
 | map (es : Array MapEntry) (clock : Nat)
def Cells.arr : Cells → Array Value
 | .vals a => a
 | .ints l => (l.map (Value.int .i64)).toArray
 | .win pre a post => pre ++ a ++ post
 | .own a _ _ => a
 | .map _ _ => #[]
structure Blk where
 b : Nat
 cs : Cells
 t : TypeId
def Cells.ends : Cells → Array Value → Prop
 | .win _ _ _, r => r = #[]
 | .own a cap size, r => a.size + r.size = cap * size ∧ cap ≤ maxLen
 | .map _ _, _ => False
 | _, _ => True
def Blk.form (x : Blk) (o : Obj) : Prop := (∃ rest : Array Value, o = .cells (x.cs.arr ++ rest) x.t (0, 0) ∧ x.cs.ends rest) ∨ ∃ es c, x.cs = .map es c ∧ o = .map es c
def Blk.holds (x : Blk) (w : World) : Prop := ∃ o, w.heap[x.b]? = some o ∧ x.form o
def newCells (cs : Array Value) : Cells := match cs.size with
 | 0 => .own #[] 0 1
 | _ => .vals cs
theorem new_form (b : Nat) (cs : Array Value) (t : TypeId) : (⟨b, newCells cs, t⟩ : Blk).form (.cells cs t (0, 0)) := by
 unfold newCells
 split
 ·rename_i h
  have : cs = #[] := by simpa using h
  subst this
  exact .inl ⟨#[], rfl, by simp [Cells.ends]⟩
 ·exact .inl ⟨#[], by simp [Cells.arr], trivial⟩
inductive Tree (β : Type) where
 | done (b : β)
 | fail
 | fresh (k : Nat → Tree β)
 | ask (c : Prop) (t : Tree β)
 | same (x y : Nat) (t : Tree β)
 | both (a b : Tree β)
def Tree.sat {β : Type} : Tree β → (β → Prop) → Prop
 | .done b, Q => Q b
 | .fail, _ => False
 | .fresh k, Q => ∀ g, (k g).sat Q
 | .ask c t, Q => c ∧ t.sat Q
 | .same x y t, Q => x = y ∧ t.sat Q
 | .both a b, Q => a.sat Q ∧ b.sat Q
def Tree.bind {β γ : Type} : Tree β → (β → Tree γ) → Tree γ
 | .done b, f => f b
 | .fail, _ => .fail
 | .fresh k, f => .fresh fun g => (k g).bind f
 | .ask c t, f => .ask c (t.bind f)
 | .same x y t, f => .same x y (t.bind f)
 | .both a b, f => .both (a.bind f) (b.bind f)
theorem sat_bind {β γ : Type} (t : Tree β) (f : β → Tree γ) (Q : γ → Prop) : (t.bind f).sat Q → t.sat fun b => (f b).sat Q := by
 induction t with
 | done b => exact id
 | fail => exact id
 | fresh k ih => exact fun h g => ih g (h g)
 | ask c t ih => exact fun h => ⟨h.1, ih h.2⟩
 | same x y t ih => exact fun h => ⟨h.1, ih h.2⟩
 | both a b iha ihb => exact fun h => ⟨iha h.1, ihb h.2⟩
def all : List Prop → Prop
 | [] => True
 | c :: cs => c ∧ all cs
def sames {β : Type} : List (Nat × Nat) → Tree β → Tree β
 | [], t => t
 | (x, y) :: ps, t => .same x y (sames ps t)
def agree : List (Nat × Nat) → Prop
 | [] => True
 | (x, y) :: ps => x = y ∧ agree ps
theorem sat_sames {β : Type} {ps : List (Nat × Nat)} {t : Tree β} {Q : β → Prop} (h : (sames ps t).sat Q) : agree ps ∧ t.sat Q := by
 induction ps with
 | nil => exact ⟨trivial, h⟩
 | cons p ps ih => exact ⟨⟨h.1, (ih h.2).1⟩, (ih h.2).2⟩
structure Out (β : Type) where
 b : β
 cs : List Prop
 l : List Nat
 r : List Nat
def Tree.close {β : Type} (gs : Nat → Nat) : List Bool → Nat → Tree β → Option (Out β)
 | _, _, .done b => some ⟨b, [], [], []⟩
 | _, _, .fail => none
 | br, n, .fresh k => (k (gs n)).close gs br (n + 1)
 | br, n, .ask c t => match t.close gs br n with
  | some o => some { o with cs := c :: o.cs }
  | none => none
 | br, n, .same x y t => match t.close gs br n with
  | some o => some { o with l := x :: o.l, r := y :: o.r }
  | none => none
 | true :: br, n, .both a _ => a.close gs br n
 | false :: br, n, .both _ b => b.close gs br n
 | [], n, .both a _ => a.close gs [] n
theorem sat_of_out {β : Type} (t : Tree β) (Q : β → Prop) : ∀ (n : Nat) (g0 : Nat → Nat), (∀ br gs, (∀ i, i < n → gs i = g0 i) → ∃ o, t.close gs br n = some o ∧ all o.cs ∧ o.l = o.r ∧ Q o.b) → t.sat Q := by
 induction t with
 | done b =>
  intro n g0 h
  obtain ⟨o, h1, _, _, h3⟩ := h [] g0 fun _ _ => rfl
  cases h1
  exact h3
 | fail =>
  intro n g0 h
  obtain ⟨o, h1, _⟩ := h [] g0 fun _ _ => rfl
  cases h1
 | fresh k ih =>
  intro n g0 h g
  refine ih g (n + 1) (fun i => if i = n then g else g0 i) fun br gs hg => ?_
  have e : gs n = g := by simpa using hg n (by omega)
  obtain ⟨o, h1, h2⟩ := h br gs fun i hi => by
   have := hg i (by omega)
   rwa [if_neg (by omega)] at this
  refine ⟨o, ?_, h2⟩
  simp only [Tree.close, e] at h1
  exact h1
 | ask c t ih =>
  intro n g0 h
  refine ⟨?_, ih n g0 fun br gs hg => ?_⟩
  ·obtain ⟨o, h1, h2, _⟩ := h [] g0 fun _ _ => rfl
   simp only [Tree.close] at h1
   split at h1
   ·cases h1
    exact h2.1
   ·cases h1
  ·obtain ⟨o, h1, h2, h3, h5⟩ := h br gs hg
   simp only [Tree.close] at h1
   split at h1
   ·rename_i o' ho
    cases h1
    exact ⟨o', ho, h2.2, h3, h5⟩
   ·cases h1
 | same x y t ih =>
  intro n g0 h
  refine ⟨?_, ih n g0 fun br gs hg => ?_⟩
  ·obtain ⟨o, h1, h2, h3, _⟩ := h [] g0 fun _ _ => rfl
   simp only [Tree.close] at h1
   split at h1
   ·cases h1
    exact (List.cons.inj h3).1
   ·cases h1
  ·obtain ⟨o, h1, h2, h3, h5⟩ := h br gs hg
   simp only [Tree.close] at h1
   split at h1
   ·rename_i o' ho
    cases h1
    exact ⟨o', ho, h2, (List.cons.inj h3).2, h5⟩
   ·cases h1
 | both a b iha ihb =>
  intro n g0 h
  refine ⟨iha n g0 fun br gs hg => ?_, ihb n g0 fun br gs hg => ?_⟩
  ·obtain ⟨o, h1, h2⟩ := h (true :: br) gs hg
   simp only [Tree.close] at h1
   exact ⟨o, h1, h2⟩
  ·obtain ⟨o, h1, h2⟩ := h (false :: br) gs hg
   simp only [Tree.close] at h1
   exact ⟨o, h1, h2⟩
structure Has (w : World) (hp : List Blk) : Prop where
 nd : (hp.map (·.b)).Nodup
 each : ∀ x ∈ hp, x.holds w
structure St (E : Type) where
 hp : List Blk
 e : E
 orc : List Nat
def St.pop {E : Type} (s : St E) : Option (Nat × Blk × St E) :=
 match s.orc with
 | p :: o => match s.hp[p]? with
  | some x => some (p, x, { s with orc := o })
  | none => none
 | [] => none
def tested {E β : Type} (x : Bool) (s : St E) (k : Bool → St E → Tree β) : Tree β :=
 match s.orc with
 | 0 :: o => .ask (x = false) (k false { s with orc := o })
 | 1 :: o => .ask (x = true) (k true { s with orc := o })
 | 2 :: o => .same x.toNat 0 (k false { s with orc := o })
 | 3 :: o => .same x.toNat 1 (k true { s with orc := o })
 | _ => .fail
theorem sat_tested {E β : Type} {x : Bool} {s : St E} {k : Bool → St E → Tree β} {Q : β → Prop} (h : (tested x s k).sat Q) : ∃ o, (k x { s with orc := o }).sat Q := by
 unfold tested at h
 split at h
 ·obtain ⟨rfl, h⟩ := h; exact ⟨_, h⟩
 ·obtain ⟨rfl, h⟩ := h; exact ⟨_, h⟩
 ·obtain ⟨e, h⟩ := h
  have : x = false := by cases x <;> simp_all
  subst this
  exact ⟨_, h⟩
 ·obtain ⟨e, h⟩ := h
  have : x = true := by cases x <;> simp_all
  subst this
  exact ⟨_, h⟩
 ·exact h.elim
def one : Value → Bool
 | .agg _ => false
 | .tuple _ => false
 | _ => true
structure Prot where
 n : Nat
 l : List Nat
def Prot.has (r : Prot) (p : Nat) : Bool := Nat.blt p r.n || r.l.any (Nat.beq p)
def semT {E α : Type} (P : Program) (pr : Prot) : Sem α → St E → Tree (α × St E)
 | .pure a, s => .done (a, s)
 | .program k, s => semT P pr (k P) s
 | .mark _ k, s => semT P pr k s
 | .load _ a k, s => match s.pop with
  | some (_, x, s') => match a.spot with
   | none => .same a.block x.b (match x.cs with
    | .vals c => match c[a.off]? with
     | some v => semT P pr (k v) s'
     | none => .fail
    | .ints l => .ask (a.off < l.length) (semT P pr (k (.int .i64 (l.getD a.off 0))) s')
    | .win pre c _ => match s'.orc with
     | i :: o => .ask (a.off = pre.size + i) (match c[i]? with
      | some v => semT P pr (k v) { s' with orc := o }
      | none => .fail)
     | [] => .fail
    | .own c _ _ => match c[a.off]? with
     | some v => semT P pr (k v) s'
     | none => .fail
    | .map _ _ => .fail)
   | some _ => .fail
  | none => .fail
 | .store _ a v k, s => match one v, s.pop with
  | true, some (p, x, s') => match a.spot, pr.has p with
   | none, false => .same a.block x.b (match x.cs with
    | .vals c => match c[a.off]? with
     | some _ => semT P pr k { s' with hp := s'.hp.set p { x with cs := .vals (c.setIfInBounds a.off v) } }
     | none => .fail
    | .ints _ => .fail
    | .win pre c post => match s'.orc with
     | i :: o => .ask (a.off = pre.size + i) (match c[i]? with
      | some _ => semT P pr k { s' with hp := s'.hp.set p { x with cs := .win pre (c.setIfInBounds i v) post }, orc := o }
      | none => .fail)
     | [] => .fail
    | .own c n z => match c[a.off]? with
     | some _ => semT P pr k { s' with hp := s'.hp.set p { x with cs := .own (c.setIfInBounds a.off v) n z } }
     | none => .fail
    | .map _ _ => .fail)
   | _, _ => .fail
  | _, _ => .fail
 | .new (.cells cs t (0, 0)) k, s => .fresh fun g => semT P pr (k g) { s with hp := s.hp ++ [⟨g, newCells cs, t⟩] }
 | .new (.map es c) k, s => .fresh fun g => semT P pr (k g) { s with hp := s.hp ++ [⟨g, .map es c, 0⟩] }
 | .new _ _, _ => .fail
 | .shape _ _, _ => .fail
 | .freeze _ _ _, _ => .fail
 | .frozen a k, s => match s.pop with
  | some (_, x, s') => match x.cs with
   | .map _ _ => .fail
   | _ => .same a.block x.b (semT P pr (k false) s')
  | none => .fail
 | .getObj r k, s => match s.pop with
  | some (_, x, s') => match x.cs with
   | .map es c => .same r x.b (semT P pr (k (.map es c)) s')
   | _ => .fail
  | none => .fail
 | .setObj r o k, s => match o, s.pop with
  | .map es' c', some (p, x, s') => match x.cs, pr.has p with
   | .map _ _, false => .same r x.b (semT P pr k { s' with hp := s'.hp.set p { x with cs := .map es' c' } })
   | _, _ => .fail
  | _, _ => .fail
 | .choose _ _, _ => .fail
 | .sys _ _, _ => .fail
 | .halt _, _ => .fail
def semR {α : Type} (P : Program) (hp : List Blk) : Sem α → List Nat → List (Nat × Nat) → List Prop → Option (α × List Nat × List (Nat × Nat) × List Prop)
 | .pure a, o, ps, c => some (a, o, ps, c)
 | .program k, o, ps, c => semR P hp (k P) o ps c
 | .mark _ k, o, ps, c => semR P hp k o ps c
 | .load _ a k, o, ps, cs => match o with
  | p :: o => match hp[p]?, a.spot with
   | some x, none => match x.cs with
    | .vals c => match c[a.off]? with
     | some v => semR P hp (k v) o ((a.block, x.b) :: ps) cs
     | none => none
    | .ints l => semR P hp (k (.int .i64 (l.getD a.off 0))) o ((a.block, x.b) :: ps) ((a.off < l.length) :: cs)
    | .win pre c _ => match o with
     | i :: o => match c[i]? with
      | some v => semR P hp (k v) o ((a.block, x.b) :: ps) ((a.off = pre.size + i) :: cs)
      | none => none
     | [] => none
    | .own c _ _ => match c[a.off]? with
     | some v => semR P hp (k v) o ((a.block, x.b) :: ps) cs
     | none => none
    | .map _ _ => none
   | _, _ => none
  | [] => none
 | .getObj r k, o, ps, cs => match o with
  | p :: o => match hp[p]? with
   | some x => match x.cs with
    | .map es c => semR P hp (k (.map es c)) o ((r, x.b) :: ps) cs
    | _ => none
   | none => none
  | [] => none
 | _, _, _, _ => none
end Go.Proofs.YtfinmiakbpmjiaaGreat.Ay
namespace Go.Proofs.YtfinmiakbpmjiaaGreat.Ay
open Go Go.RowKit Go.Proofs.YtfinmiakbpmjiaaGreat
theorem nodup_at {l : List Blk} (h : (l.map (·.b)).Nodup) {i j : Nat} {x y : Blk} (hi : l[i]? = some x) (hj : l[j]? = some y) (e : x.b = y.b) : i = j := by
 obtain ⟨hi1, hi2⟩ := List.getElem?_eq_some_iff.1 hi
 obtain ⟨hj1, hj2⟩ := List.getElem?_eq_some_iff.1 hj
 have := (List.getElem_inj (xs := l.map (·.b)) (h₀ := by simpa using hi1) (h₁ := by simpa using hj1) h).1 (by simp [hi2, hj2, e])
 exact this
theorem holds_far {x : Blk} {w : World} (h : x.holds w) {a : Addr} (hn : x.b ≠ a.block) (v : Value) : x.holds (w.setCell a v) := by
 obtain ⟨o, hr, hf⟩ := h
 exact ⟨o, blk_far hr hn v, hf⟩
theorem holds_lt {x : Blk} {w : World} (h : x.holds w) : x.b < w.heap.size := by
 obtain ⟨o, hr, _⟩ := h
 exact blk_lt hr
theorem holds_only {x : Blk} {w w' : World} {L : List Nat} (h : x.holds w) (k : Only L w w') (hx : x.b ∉ L) : x.holds w' := by
 obtain ⟨o, hr, hf⟩ := h
 exact ⟨o, (k.block _ (blk_lt hr) hx).trans hr, hf⟩
theorem holds_cells {x : Blk} {w : World} (h : x.holds w) (hm : ∀ es c, x.cs ≠ .map es c) : ∃ rest : Array Value, w.heap[x.b]? = some (.cells (x.cs.arr ++ rest) x.t (0, 0)) ∧ x.cs.ends rest := by
 obtain ⟨o, hr, ⟨rest, rfl, he⟩ | ⟨es, c, e, _⟩⟩ := h
 ·exact ⟨rest, hr, he⟩
 ·exact (hm _ _ e).elim
theorem holds_map {x : Blk} {w : World} (h : x.holds w) {es : Array MapEntry} {c : Nat} (e : x.cs = .map es c) : w.heap[x.b]? = some (.map es c) := by
 obtain ⟨o, hr, ⟨rest, rfl, he⟩ | ⟨es', c', e', rfl⟩⟩ := h
 ·rw [e] at he; exact he.elim
 ·rw [e] at e'; cases e'; exact hr
theorem map_set (l : List Blk) (p : Nat) (x y : Blk) (h : l[p]? = some x) (e : y.b = x.b) : (l.set p y).map (·.b) = l.map (·.b) := by
 apply List.ext_getElem?
 intro i
 simp only [List.getElem?_map, List.getElem?_set]
 by_cases hi : p = i
 ·subst hi
  obtain ⟨h1, h2⟩ := List.getElem?_eq_some_iff.1 h
  simp [h, h1, h2, e]
 ·simp [hi]
theorem win_set (pre c post : Array Value) (i : Nat) (v : Value) (h : i < c.size) : pre ++ c.setIfInBounds i v ++ post = (pre ++ c ++ post).setIfInBounds (pre.size + i) v := by
 rw [Array.setIfInBounds_append_left (by simp; omega), Array.setIfInBounds_append_right (by omega)]
 simp
theorem win_at (pre c post : Array Value) (i : Nat) (v : Value) (h : c[i]? = some v) : (pre ++ c ++ post)[pre.size + i]? = some v := by
 obtain ⟨h1, h2⟩ := Array.getElem?_eq_some_iff.1 h
 rw [Array.getElem?_append_left (by simp; omega), Array.getElem?_append_right (by omega)]
 simp [h]
structure Side where
 E : Type
 I : E → World → List Nat → Prop
 stable : ∀ e w w' L F, I e w F → Only L w w' → (∀ x ∈ F, x ∉ L) → I e w' F
variable {S : Side}
theorem only_alloc (w : World) (o : Obj) : Only [] w (w.alloc o) := (Only.of (Below.refl _ _)).alloc o
structure Foot (S : Side) (L : List Nat) (w0 : World) (s : St S.E) (w : World) (F : List Nat) : Prop where
 inv : S.I s.e w F
 apart : ∀ x ∈ s.hp, x.b ∉ F
 foot : ∀ b ∈ F, b < w.heap.size ∧ (b ∈ L ∨ w0.heap.size ≤ b)
structure Rel (S : Side) (L : List Nat) (w0 : World) (pr : Prot) (PN : List (Nat × Blk)) (s : St S.E) (w : World) : Prop where
 has : Has w s.hp
 side : ∃ F, Foot S L w0 s w F
 only : Only L w0 w
 own : ∀ x ∈ s.hp, x.b ∈ L ∨ w0.heap.size ≤ x.b
 pn : ∀ q ∈ PN, pr.has q.1 = true ∧ (s.hp.map (·.b))[q.1]? = some q.2.b
 pnw : ∀ q ∈ PN, q.2.holds w
section
variable {L : List Nat} {w0 w w' : World} {pr : Prot} {PN : List (Nat × Blk)} {s : St S.E}
theorem Rel.size (h : Rel S L w0 pr PN s w) : w0.heap.size ≤ w.heap.size := h.only.size
theorem Rel.orc (h : Rel S L w0 pr PN s w) (o : List Nat) : Rel S L w0 pr PN { s with orc := o } w := ⟨h.has, h.side.imp fun F hf => ⟨hf.inv, hf.apart, hf.foot⟩, h.only, h.own, h.pn, h.pnw⟩
theorem Rel.at_ (h : Rel S L w0 pr PN s w) {q : Nat × Blk} (hq : q ∈ PN) : ∃ y ∈ s.hp, s.hp[q.1]? = some y ∧ y.b = q.2.b := by
 have h3 := (h.pn q hq).2
 rw [List.getElem?_map] at h3
 cases hq1 : s.hp[q.1]? with
 | none => rw [hq1] at h3; simp at h3
 | some y =>
  rw [hq1] at h3
  simp at h3
  exact ⟨y, List.mem_of_getElem? hq1, rfl, h3⟩
theorem Rel.add (h : Rel S L w0 pr PN s w) {y : Blk} (ho : Only [] w w') (hy : y.holds w') (hb : w.heap.size ≤ y.b) : Rel S L w0 pr PN { s with hp := s.hp ++ [y] } w' := by
 obtain ⟨F, hf⟩ := h.side
 refine ⟨⟨?_, fun z hz => ?_⟩, ⟨F, S.stable _ _ _ _ _ hf.inv ho (by simp), fun x hx => ?_, fun b hb => ⟨Nat.lt_of_lt_of_le (hf.foot b hb).1 ho.size, (hf.foot b hb).2⟩⟩, h.only.trans (ho.wide (by simp)), fun x hx => ?_, fun q hq => ⟨(h.pn q hq).1, ?_⟩, fun q hq => holds_only (h.pnw q hq) ho (by simp)⟩
 ·rw [List.map_append, List.nodup_append]
  refine ⟨h.has.nd, by simp, fun a ha b hb' => ?_⟩
  simp at hb'
  subst hb'
  obtain ⟨x, hx, rfl⟩ := List.mem_map.1 ha
  have := holds_lt (h.has.each x hx)
  omega
 ·rcases List.mem_append.1 hz with h1 | h1
  ·exact holds_only (h.has.each z h1) ho (by simp)
  ·simp at h1
   subst h1
   exact hy
 ·rcases List.mem_append.1 hx with h1 | h1
  ·exact hf.apart x h1
  ·simp at h1
   subst h1
   intro hb'
   have := (hf.foot _ hb').1
   omega
 ·rcases List.mem_append.1 hx with h1 | h1
  ·exact h.own x h1
  ·simp at h1
   subst h1
   have := h.size
   exact .inr (by omega)
 ·have h3 := (h.pn q hq).2
  rw [List.map_append, List.getElem?_append_left (List.getElem?_eq_some_iff.1 h3).1]
  exact h3
theorem nodup_set {l : List Nat} (h : l.Nodup) {p v : Nat} (hv : ∀ i, i ≠ p → l[i]? ≠ some v) : (l.set p v).Nodup := by
 refine List.pairwise_iff_getElem.2 fun i j hi hj hij he => ?_
 simp only [List.length_set] at hi hj
 simp only [List.getElem_set] at he
 by_cases e1 : p = i
 ·by_cases e2 : p = j
  ·omega
  ·rw [if_pos e1, if_neg e2] at he
   exact hv j (Ne.symm e2) (by rw [List.getElem?_eq_getElem hj, he])
 ·by_cases e2 : p = j
  ·rw [if_neg e1, if_pos e2] at he
   exact hv i (Ne.symm e1) (by rw [List.getElem?_eq_getElem hi, he])
  ·rw [if_neg e1, if_neg e2] at he
   have := (List.getElem_inj (h₀ := hi) (h₁ := hj) h).1 he
   omega
theorem Rel.swap (h : Rel S L w0 pr PN s w) {p : Nat} {x y : Blk} (hx : s.hp[p]? = some x) (hp' : pr.has p = false) (ho : Only [x.b] w w') (hy : y.holds w') (hb : y.b = x.b ∨ w.heap.size ≤ y.b) (o : List Nat) : Rel S L w0 pr PN { s with hp := s.hp.set p y, orc := o } w' := by
 obtain ⟨F, hf⟩ := h.side
 have hm := List.mem_of_getElem? hx
 have hin : ∀ z ∈ s.hp.set p y, z = y ∨ (∃ i, i ≠ p ∧ s.hp[i]? = some z) := by
  intro z hz
  obtain ⟨i, hi⟩ := List.mem_iff_getElem?.1 hz
  rw [List.getElem?_set] at hi
  by_cases e : p = i
  ·subst e
   obtain ⟨h1, _⟩ := List.getElem?_eq_some_iff.1 hx
   simp [h1] at hi
   exact .inl hi.symm
  ·simp [e] at hi
   exact .inr ⟨i, Ne.symm e, hi⟩
 have hfar : ∀ z i, i ≠ p → s.hp[i]? = some z → z.b ≠ x.b := fun z i hi hz e => hi (nodup_at h.has.nd hz hx e)
 have hL : x.b ∈ L ∨ w0.heap.size ≤ x.b := h.own x hm
 refine ⟨⟨?_, fun z hz => ?_⟩, ⟨F, ?_, fun z hz => ?_, fun b hb => ⟨Nat.lt_of_lt_of_le (hf.foot b hb).1 ho.size, (hf.foot b hb).2⟩⟩, ?_, fun z hz => ?_, fun q hq => ⟨(h.pn q hq).1, ?_⟩, fun q hq => ?_⟩
 ·rw [List.map_set]
  refine nodup_set h.has.nd fun i hi hv => ?_
  rw [List.getElem?_map] at hv
  cases hz : s.hp[i]? with
  | none => rw [hz] at hv; cases hv
  | some z =>
   rw [hz] at hv
   simp at hv
   rcases hb with hb | hb
   ·exact hfar z i hi hz (hv.trans hb)
   ·have := holds_lt (h.has.each z (List.mem_of_getElem? hz))
    omega
 ·rcases hin z hz with rfl | ⟨i, hi, hz⟩
  ·exact hy
  ·exact holds_only (h.has.each z (List.mem_of_getElem? hz)) ho (by simpa using hfar z i hi hz)
 ·refine S.stable _ _ _ [x.b] _ hf.inv ho fun b hb => ?_
  simp
  rintro rfl
  exact hf.apart x hm hb
 ·rcases hin z hz with rfl | ⟨i, hi, hz⟩
  ·rcases hb with hb | hb
   ·rw [hb]; exact hf.apart x hm
   ·intro hb'
    have := (hf.foot _ hb').1
    omega
  ·exact hf.apart z (List.mem_of_getElem? hz)
 ·refine ⟨ho.os.trans h.only.os, ho.tape.trans h.only.tape, ho.output.trans h.only.output, Nat.le_trans h.only.size ho.size, fun k hk hn => ?_⟩
  rw [ho.block k (Nat.lt_of_lt_of_le hk h.only.size), h.only.block k hk hn]
  simp
  rintro rfl
  rcases hL with h1 | h1
  ·exact hn h1
  ·omega
 ·rcases hin z hz with rfl | ⟨i, hi, hz⟩
  ·rcases hb with hb | hb
   ·rw [hb]; exact hL
   ·have := h.size
    exact .inr (by omega)
  ·exact h.own z (List.mem_of_getElem? hz)
 ·have hne : p ≠ q.1 := by
   intro e
   rw [e, (h.pn q hq).1] at hp'
   cases hp'
  rw [List.map_set, List.getElem?_set_ne hne]
  exact (h.pn q hq).2
 ·obtain ⟨z, _, hz, e⟩ := h.at_ hq
  refine holds_only (h.pnw q hq) ho ?_
  rw [← e]
  have hne : q.1 ≠ p := by
   intro e
   rw [← e, (h.pn q hq).1] at hp'
   cases hp'
  simpa using hfar z q.1 hne hz
theorem Rel.turn (h : Rel S L w0 pr PN s w) {F F' : List Nat} (hf : Foot S L w0 s w F) {e : S.E} (ho : Only F w w') (hi : S.I e w' F') (hF : ∀ b ∈ F', b < w'.heap.size ∧ (b ∈ F ∨ w.heap.size ≤ b)) : Rel S L w0 pr PN { s with e := e } w' := by
 refine ⟨⟨h.has.nd, fun x hx => holds_only (h.has.each x hx) ho (hf.apart x hx)⟩, ⟨F', hi, fun x hx hb => ?_, fun b hb => ⟨(hF b hb).1, ?_⟩⟩, ?_, h.own, h.pn, fun q hq => ?_⟩
 ·rcases (hF _ hb).2 with h1 | h1
  ·exact hf.apart x hx h1
  ·have := holds_lt (h.has.each x hx)
   omega
 ·rcases (hF b hb).2 with h1 | h1
  ·exact (hf.foot b h1).2
  ·exact .inr (Nat.le_trans h.size h1)
 ·refine ⟨ho.os.trans h.only.os, ho.tape.trans h.only.tape, ho.output.trans h.only.output, Nat.le_trans h.only.size ho.size, fun k hk hn => ?_⟩
  rw [ho.block k (Nat.lt_of_lt_of_le hk h.only.size), h.only.block k hk hn]
  intro hkF
  rcases (hf.foot k hkF).2 with h1 | h1
  ·exact hn h1
  ·omega
 ·obtain ⟨y, hy, _, e⟩ := h.at_ hq
  refine holds_only (h.pnw q hq) ho ?_
  rw [← e]
  exact hf.apart y hy
theorem Rel.below (h : Rel S L w0 pr PN s w) (hb : Below w.heap.size w w') : Rel S L w0 pr PN s w' := by
 have ho : Only [] w w' := .of hb
 obtain ⟨F, hf⟩ := h.side
 exact ⟨⟨h.has.nd, fun x hx => holds_only (h.has.each x hx) ho (by simp)⟩, ⟨F, S.stable _ _ _ _ _ hf.inv ho (by simp), hf.apart, fun b hb => ⟨Nat.lt_of_lt_of_le (hf.foot b hb).1 ho.size, (hf.foot b hb).2⟩⟩, h.only.trans (ho.wide (by simp)), h.own, h.pn, fun q hq => holds_only (h.pnw q hq) ho (by simp)⟩
theorem Rel.more (h : Rel S L w0 pr PN s w) {pr' : Prot} {PN' : List (Nat × Blk)} (h1 : ∀ p, pr.has p = true → pr'.has p = true)
  (h2 : ∀ q ∈ PN', q ∈ PN ∨ (pr'.has q.1 = true ∧ (s.hp.map (·.b))[q.1]? = some q.2.b ∧ q.2.holds w)) : Rel S L w0 pr' PN' s w := by
 refine ⟨h.has, h.side, h.only, h.own, fun q hq => ?_, fun q hq => ?_⟩
 ·rcases h2 q hq with h3 | ⟨h3, h4, h5⟩
  ·exact ⟨h1 _ (h.pn q h3).1, (h.pn q h3).2⟩
  ·exact ⟨h3, h4⟩
 ·rcases h2 q hq with h3 | ⟨_, _, h5⟩
  ·exact h.pnw q h3
  ·exact h5
theorem Rel.less {pr' : Prot} {PN' : List (Nat × Blk)} {s0 : St S.E} {w1 : World} (h : Rel S L w0 pr' PN' s w) (h0 : Rel S L w0 pr PN s0 w1) (h1 : ∀ q ∈ PN, q ∈ PN') : Rel S L w0 pr PN s w :=
 ⟨h.has, h.side, h.only, h.own, fun q hq => ⟨(h0.pn q hq).1, (h.pn q (h1 q hq)).2⟩, fun q hq => h.pnw q (h1 q hq)⟩
end
theorem pop_some {E : Type} {s s' : St E} {p : Nat} {x : Blk} (h : s.pop = some (p, x, s')) : s.hp[p]? = some x ∧ ∃ o, s' = { s with orc := o } := by
 unfold St.pop at h
 split at h
 ·split at h
  ·cases h
   exact ⟨by assumption, _, rfl⟩
  ·cases h
 ·cases h
def Holds (w : World) (hp : List Blk) : Prop := ∀ x ∈ hp, x.holds w
theorem cell_hold {x : Blk} {w : World} (h : x.holds w) (i : Nat) (v : Value) (hv : x.cs.arr[i]? = some v) : w.cell? ⟨x.b, i, none⟩ = some v := by
 obtain ⟨rest, hr, _⟩ := holds_cells h fun es c e => by rw [e] at hv; simp [Cells.arr] at hv
 rw [blk_cell hr, Array.getElem?_append_left (Array.getElem?_eq_some_iff.1 hv).1, hv]
theorem cell_at {w : World} {hp : List Blk} (h : Holds w hp) {p : Nat} {x : Blk} (hx : hp[p]? = some x) (i : Nat) (v : Value) (hv : x.cs.arr[i]? = some v) : w.cell? ⟨x.b, i, none⟩ = some v :=
 cell_hold (h x (List.mem_of_getElem? hx)) i v hv
theorem cell_of {w : World} {hp : List Blk} (h : Has w hp) {p : Nat} {x : Blk} (hx : hp[p]? = some x) (i : Nat) (v : Value) (hv : x.cs.arr[i]? = some v) : w.cell? ⟨x.b, i, none⟩ = some v := cell_at h.each hx i v hv
theorem frozen_of {w : World} {hp : List Blk} (h : Has w hp) {p : Nat} {x : Blk} (hx : hp[p]? = some x) (hm : ∀ es c, x.cs ≠ .map es c) (a : Addr) (ha : a.block = x.b) : w.frozen? a = false := by
 obtain ⟨rest, hr, _⟩ := holds_cells (h.each x (List.mem_of_getElem? hx)) hm
 simp [World.frozen?, ha, hr]
theorem ints_at (l : List Int) (i : Nat) (h : i < l.length) : (Cells.ints l).arr[i]? = some (.int .i64 (l.getD i 0)) := by
 simp [Cells.arr, h, List.getD_eq_getElem?_getD]
theorem addr_eq {a : Addr} {b : Nat} (h1 : a.block = b) (h2 : a.spot = none) : a = ⟨b, a.off, none⟩ := by
 cases a
 simp at h1 h2
 simp [h1, h2]
theorem run_store_one {α : Type} {P : Program} {m : Mode} {a : Addr} {v u : Value} {k : Sem α} {w : World} (h : one v = true) (hc : w.cell? a = some u) (hf : w.frozen? a = false) : (Sem.store m a v k).run P w = k.run P (w.setCell a v) := by
 cases v <;> simp_all [Sem.run, one]
theorem Rel.put {L : List Nat} {w0 w : World} {pr : Prot} {PN : List (Nat × Blk)} {s : St S.E} (h : Rel S L w0 pr PN s w) {p off : Nat} {x : Blk} {u : Value} {cs' : Cells} (hx : s.hp[p]? = some x) (ho : x.cs.arr[off]? = some u) (hp' : pr.has p = false) (v : Value) (o : List Nat) (hcs : cs'.arr = x.cs.arr.setIfInBounds off v) (hend : ∀ r, x.cs.ends r → cs'.ends r) :
  Rel S L w0 pr PN { s with hp := s.hp.set p { x with cs := cs' }, orc := o } (w.setCell ⟨x.b, off, none⟩ v) := by
 have hset : Only [x.b] w (w.setCell ⟨x.b, off, none⟩ v) := (Only.of (Below.refl _ _)).set x.b off v (.inl (by simp))
 obtain ⟨rest, hr, he⟩ := holds_cells (h.has.each x (List.mem_of_getElem? hx)) fun es c e => by rw [e] at ho; simp [Cells.arr] at ho
 refine h.swap (y := { x with cs := cs' }) hx hp' hset ⟨_, blk_put hr off v rfl, .inl ⟨rest, ?_, hend _ he⟩⟩ (.inl rfl) o
 obtain ⟨hlt, _⟩ := Array.getElem?_eq_some_iff.1 ho
 simp only [hcs]
 congr 1
 rw [Array.setIfInBounds_append_left hlt]
theorem semT_sound {α : Type} (P : Program) {L : List Nat} {w0 : World} {pr : Prot} {PN : List (Nat × Blk)} (Q : α × St S.E → Prop) (x : Sem α) : ∀ (s : St S.E) (w : World), (semT P pr x s).sat Q → Rel S L w0 pr PN s w → ∃ a w' s', x.run P w = .ok a w' ∧ Q (a, s') ∧ Rel S L w0 pr PN s' w' := by
 induction x with
 | pure a => exact fun s w h hr => ⟨a, w, s, rfl, h, hr⟩
 | program k ih => exact fun s w h hr => ih P s w h hr
 | mark m k ih => exact fun s w h hr => ih s w h hr
 | load m a k ih =>
  intro s w h hr
  unfold semT at h
  split at h
  ·rename_i p y s' hs
   obtain ⟨hx, o, rfl⟩ := pop_some hs
   split at h
   ·rename_i h2
    obtain ⟨h1, h3⟩ := h
    have hv : ∃ v o', y.cs.arr[a.off]? = some v ∧ (semT P pr (k v) { s with orc := o' }).sat Q := by
     split at h3
     ·rename_i c hc
      split at h3
      ·rename_i v hv
       exact ⟨v, o, by rw [hc]; exact hv, h3⟩
      ·exact h3.elim
     ·rename_i l hl
      exact ⟨_, o, by rw [hl]; exact ints_at l _ h3.1, h3.2⟩
     ·rename_i pre c post hc
      split at h3
      ·rename_i i o' ho
       obtain ⟨h5, h3⟩ := h3
       split at h3
       ·rename_i v hv
        exact ⟨v, o', by rw [hc, h5]; exact win_at pre c post i v hv, h3⟩
       ·exact h3.elim
      ·exact h3.elim
     ·rename_i c _ _ hc
      split at h3
      ·rename_i v hv
       exact ⟨v, o, by rw [hc]; exact hv, h3⟩
      ·exact h3.elim
     ·exact h3.elim
    obtain ⟨v, o', hv, h4⟩ := hv
    obtain ⟨r, w', s', e1, e2⟩ := ih v { s with orc := o' } w h4 (hr.orc o')
    have hcell := cell_of hr.has hx a.off v hv
    rw [← addr_eq h1 h2] at hcell
    exact ⟨r, w', s', by simp only [Sem.run, hcell]; exact e1, e2⟩
   ·exact h.elim
  ·exact h.elim
 | store m a v k ih =>
  intro s w h hr
  unfold semT at h
  split at h
  ·rename_i p y s' h1v hs
   obtain ⟨hx, o, rfl⟩ := pop_some hs
   split at h
   ·rename_i h2 hpr
    obtain ⟨h1, h3⟩ := h
    have go : ∀ (cs' : Cells) (u : Value) (o' : List Nat), y.cs.arr[a.off]? = some u → cs'.arr = y.cs.arr.setIfInBounds a.off v → (∀ r, y.cs.ends r → cs'.ends r) → (semT P pr k { s with hp := s.hp.set p { y with cs := cs' }, orc := o' }).sat Q → ∃ r w' s', (Sem.store m a v k).run P w = .ok r w' ∧ Q (r, s') ∧ Rel S L w0 pr PN s' w' := by
     intro cs' u o' hu hcs he h3
     have hr' := hr.put (cs' := cs') hx hu hpr v o' hcs he
     rw [← addr_eq h1 h2] at hr'
     obtain ⟨r, w', s', e1, e2⟩ := ih _ _ h3 hr'
     have hcell := cell_of hr.has hx a.off u hu
     rw [← addr_eq h1 h2] at hcell
     exact ⟨r, w', s', (run_store_one h1v hcell (frozen_of hr.has hx (fun es c e => by rw [e] at hu; simp [Cells.arr] at hu) a h1)).trans e1, e2⟩
    split at h3
    ·rename_i c hc
     split at h3
     ·rename_i u hu
      exact go (.vals (c.setIfInBounds a.off v)) u o (by rw [hc]; exact hu) (by rw [hc]; rfl) (by rw [hc]; exact fun r h => h) h3
     ·exact h3.elim
    ·exact h3.elim
    ·rename_i pre c post hc
     split at h3
     ·rename_i i o' ho
      obtain ⟨h5, h3⟩ := h3
      split at h3
      ·rename_i u hu
       exact go (.win pre (c.setIfInBounds i v) post) u o' (by rw [hc, h5]; exact win_at pre c post i u hu) (by rw [hc, h5]; exact win_set pre c post i v (Array.getElem?_eq_some_iff.1 hu).1) (by rw [hc]; exact fun r h => h) h3
      ·exact h3.elim
     ·exact h3.elim
    ·rename_i c n z hc
     split at h3
     ·rename_i u hu
      exact go (.own (c.setIfInBounds a.off v) n z) u o (by rw [hc]; exact hu) (by rw [hc]; rfl) (by rw [hc]; exact fun r h => by simpa [Cells.ends] using h) h3
     ·exact h3.elim
    ·exact h3.elim
   ·exact h.elim
  ·exact h.elim
 | new o k ih =>
  intro s w h hr
  cases o with
  | cells cs t fr =>
   obtain ⟨x, y⟩ := fr
   match x, y, h with
   | 0, 0, h =>
    obtain ⟨r, w', s', e1, e2⟩ := ih w.heap.size _ _ (h w.heap.size) (hr.add (y := ⟨w.heap.size, newCells cs, t⟩) (only_alloc w (.cells cs t)) ⟨_, blk_new w _, new_form _ _ _⟩ (Nat.le_refl _))
    exact ⟨r, w', s', e1, e2⟩
  | map es c =>
   obtain ⟨r, w', s', e1, e2⟩ := ih w.heap.size _ _ (h w.heap.size) (hr.add (y := ⟨w.heap.size, .map es c, 0⟩) (only_alloc w (.map es c)) ⟨_, blk_new w _, .inr ⟨es, c, rfl, rfl⟩⟩ (Nat.le_refl _))
   exact ⟨r, w', s', e1, e2⟩
  | _ => exact h.elim
 | frozen a k ih =>
  intro s w h hr
  unfold semT at h
  split at h
  ·rename_i p y s' hs
   obtain ⟨hx, o, rfl⟩ := pop_some hs
   split at h
   ·exact h.elim
   ·rename_i hm
    obtain ⟨h1, h3⟩ := h
    obtain ⟨r, w', s', e1, e2⟩ := ih false { s with orc := o } w h3 (hr.orc o)
    exact ⟨r, w', s', by simp only [Sem.run, frozen_of hr.has hx hm a h1]; exact e1, e2⟩
  ·exact h.elim
 | getObj r k ih =>
  intro s w h hr
  unfold semT at h
  split at h
  ·rename_i p y s' hs
   obtain ⟨hx, o, rfl⟩ := pop_some hs
   split at h
   ·rename_i es c hc
    obtain ⟨rfl, h3⟩ := h
    obtain ⟨b, w', s', e1, e2⟩ := ih _ { s with orc := o } w h3 (hr.orc o)
    have hm := holds_map (hr.has.each y (List.mem_of_getElem? hx)) hc
    exact ⟨b, w', s', by simp only [Sem.run, hm]; exact e1, e2⟩
   ·exact h.elim
  ·exact h.elim
 | setObj r o k ih =>
  intro s w h hr
  unfold semT at h
  split at h
  ·rename_i es' c' p y s' hs
   obtain ⟨hx, o, rfl⟩ := pop_some hs
   split at h
   ·rename_i es c hc hpr
    obtain ⟨rfl, h3⟩ := h
    have hm := holds_map (hr.has.each y (List.mem_of_getElem? hx)) hc
    have hlt := blk_lt hm
    have ho : Only [y.b] w { w with heap := w.heap.setIfInBounds y.b (.map es' c') } := ⟨rfl, rfl, rfl, by simp, fun k hk hn => by simp at hn; simp [Array.getElem?_setIfInBounds, Ne.symm hn]⟩
    obtain ⟨b, w', s', e1, e2⟩ := ih _ _ h3 (hr.swap (y := { y with cs := .map es' c' }) hx hpr ho ⟨_, by simp [hlt], .inr ⟨es', c', rfl, rfl⟩⟩ (.inl rfl) o)
    exact ⟨b, w', s', by simp only [Sem.run, hm]; exact e1, e2⟩
   ·exact h.elim
  ·exact h.elim
 | _ => intro s w h hr; exact h.elim
theorem semR_sound {α : Type} (P : Program) (hp : List Blk) (x : Sem α) : ∀ (o o' : List Nat) (ps ps' : List (Nat × Nat)) (c c' : List Prop) (a : α), semR P hp x o ps c = some (a, o', ps', c') → agree ps' → all c' → (∀ w, Holds w hp → x.run P w = .ok a w) ∧ agree ps ∧ all c := by
 induction x with
 | pure a =>
  intro o o' ps ps' c c' b h hp hc
  cases h
  exact ⟨fun w _ => rfl, hp, hc⟩
 | program k ih => exact fun o o' ps ps' c c' b h hp hc => ih P o o' ps ps' c c' b h hp hc
 | mark m k ih => exact fun o o' ps ps' c c' b h hp hc => ih o o' ps ps' c c' b h hp hc
 | load m a k ih =>
  intro o o' ps ps' c c' b h hp hc
  unfold semR at h
  split at h
  ·rename_i p o1
   split at h
   ·rename_i x hx hsp
    split at h
    ·rename_i cs hcs
     split at h
     ·rename_i v hv
      obtain ⟨h1, h2, h3⟩ := ih v _ _ _ _ _ _ _ h hp hc
      refine ⟨fun w hw => ?_, h2.2, h3⟩
      have hcell := cell_at hw hx a.off v (by rw [hcs]; exact hv)
      rw [← addr_eq h2.1 hsp] at hcell
      simp only [Sem.run, hcell]
      exact h1 w hw
     ·cases h
    ·rename_i l hl
     obtain ⟨h1, h2, h3⟩ := ih _ _ _ _ _ _ _ _ h hp hc
     refine ⟨fun w hw => ?_, h2.2, h3.2⟩
     have hcell := cell_at hw hx a.off _ (by rw [hl]; exact ints_at l _ h3.1)
     rw [← addr_eq h2.1 hsp] at hcell
     simp only [Sem.run, hcell]
     exact h1 w hw
    ·rename_i pre c0 post hcs
     split at h
     ·rename_i i o2
      split at h
      ·rename_i v hv
       obtain ⟨h1, h2, h3⟩ := ih v _ _ _ _ _ _ _ h hp hc
       refine ⟨fun w hw => ?_, h2.2, h3.2⟩
       have hcell := cell_at hw hx a.off v (by rw [hcs, h3.1]; exact win_at pre c0 post i v hv)
       rw [← addr_eq h2.1 hsp] at hcell
       simp only [Sem.run, hcell]
       exact h1 w hw
      ·cases h
     ·cases h
    ·rename_i cs _ _ hcs
     split at h
     ·rename_i v hv
      obtain ⟨h1, h2, h3⟩ := ih v _ _ _ _ _ _ _ h hp hc
      refine ⟨fun w hw => ?_, h2.2, h3⟩
      have hcell := cell_at hw hx a.off v (by rw [hcs]; exact hv)
      rw [← addr_eq h2.1 hsp] at hcell
      simp only [Sem.run, hcell]
      exact h1 w hw
     ·cases h
    ·cases h
   ·cases h
  ·cases h
 | getObj r k ih =>
  intro o o' ps ps' c c' b h hp hc
  unfold semR at h
  split at h
  ·rename_i p o1
   split at h
   ·rename_i x hx
    split at h
    ·rename_i es cl hcs
     obtain ⟨h1, h2, h3⟩ := ih _ _ _ _ _ _ _ _ h hp hc
     refine ⟨fun w hw => ?_, h2.2, h3⟩
     have hm := holds_map (hw x (List.mem_of_getElem? hx)) hcs
     rw [← h2.1] at hm
     simp only [Sem.run, hm]
     exact h1 w hw
    ·cases h
   ·cases h
  ·cases h
 | _ => intro o o' ps ps' c c' b h; cases h
end Go.Proofs.YtfinmiakbpmjiaaGreat.Ay
namespace Go.Proofs.YtfinmiakbpmjiaaGreat.Ay
open Go Go.RowKit Go.Proofs.YtfinmiakbpmjiaaGreat
def evalT (t : Array Value) : Operand → Value := (⟨t, []⟩ : Act).eval
def putT (t : Array Value) (d : Option Tmp) (v : Value) : Array Value := match d with
 | some d => t.setIfInBounds d v
 | none => t
theorem put_act (t : Array Value) (d : Option Tmp) (v : Value) : (⟨t, []⟩ : Act).put d v = ⟨putT t d v, []⟩ := by cases d <;> rfl
def flag : Nat → Bool
 | 1 => true
 | _ => false
def offAt (i : Operand) (f n size : Nat) : Nat := match i with
 | .const _ => f + n * size
 | _ => match size with
  | 1 => n + f
  | _ => n * size + f
theorem offAt_eq (i : Operand) (f n size : Nat) : offAt i f n size = f + n * size := by
 unfold offAt
 split
 ·rfl
 ·split
  ·omega
  ·omega
def cutBy (cap n size : Nat) : Nat := if cap = n then 0 else n * size
def lacking (want : Array (String × TypeId)) (got : Array Method) : Bool := match want.toList.filter fun (name, sig) => !got.any fun m => m.name == name && m.sig == sig with
 | [] => false
 | _ => true
theorem least_some {l : List String} (h : l ≠ []) : ∃ m, Instr.least l = some m := by
 cases l with
 | nil => exact (h rfl).elim
 | cons x xs => exact ⟨_, rfl⟩
theorem lacking_some {want : Array (String × TypeId)} {got : Array Method} (h : lacking want got = true) : ∃ m, Instr.missingMethod want got = some m := by
 unfold lacking at h
 unfold Instr.missingMethod
 generalize (want.toList.filter fun (name, sig) => !got.any fun m => m.name == name && m.sig == sig) = l at h ⊢
 cases l with
 | nil => cases h
 | cons x xs =>
  simp only [List.map_cons]
  cases hp : (x.1 :: xs.map (·.1)).partition (·.contains (Char.ofNat 46)) with
  | mk a b =>
   simp only []
   by_cases hb : b = []
   ·have ha : a ≠ [] := by
     intro ha
     rw [List.partition_eq_filter_filter] at hp
     cases hp
     have h1 : x.1 ∈ (x.1 :: xs.map (·.1)) := List.mem_cons_self
     cases hc : x.1.contains (Char.ofNat 46)
     ·have : x.1 ∈ ([] : List String) := hb ▸ List.mem_filter.2 ⟨h1, by show (!x.1.contains (Char.ofNat 46)) = true; rw [hc]; rfl⟩
      cases this
     ·have : x.1 ∈ ([] : List String) := ha ▸ List.mem_filter.2 ⟨h1, hc⟩
      cases this
    obtain ⟨m, hm⟩ := least_some (l := a.map fun id => (id.splitOn ".").getLastD id) (by simpa using ha)
    subst hb
    exact ⟨m, by rw [hm]; rfl⟩
   ·obtain ⟨m, hm⟩ := least_some hb
    exact ⟨m, by rw [hm]; rfl⟩
def specialAt (P : Program) (o : Op) (ev : Operand → Value) (orc : List Nat) : Option (Value × List Nat × List Prop) :=
 match o with
 | .pick c x y => match ev c, orc with
  | .bool t, 2 :: r => match t with | false => some (ev y, r, []) | true => none
  | .bool t, 3 :: r => match t with | true => some (ev x, r, []) | false => none
  | .bool t, b :: r => some (match flag b with | true => ev x | false => ev y, r, [t = flag b])
  | _, _ => none
 | .indexAddr t x i => match ev x, ev i, P.underlying t with
  | .slice (some ⟨b, f, none⟩) len _, .int _ n, some (.slice e) => match P.info? e with
   | some inf => some (.pointer (some ⟨b, offAt i f n.toNat inf.size, none⟩), orc, [0 ≤ n, n < (len : Int)])
   | none => none
  | _, _, _ => none
 | .slice t x (some lo) none none => match ev x, ev lo, P.underlying t with
  | .slice (some ⟨b, f, none⟩) len cap, .int _ n, some (.slice e) => match P.info? e with
   | some inf => some (.slice (some ⟨b, f + cutBy cap n.toNat inf.size, none⟩) (len - n.toNat) (cap - n.toNat), orc, [0 ≤ n, n ≤ (len : Int)])
   | none => none
  | _, _, _ => none
 | .slice t x none (some hi) none => match ev x, ev hi, P.underlying t with
  | .slice (some ⟨b, f, none⟩) _ cap, .int _ n, some (.slice e) => match P.info? e with
   | some _ => some (.slice (some ⟨b, f, none⟩) n.toNat cap, orc, [0 ≤ n, n ≤ (cap : Int)])
   | none => none
  | _, _, _ => none
 | .typeAssert x _ a true => match ev x, P.underlying a, P.info? a with
  | .iface t _, some (.interface want), some ia => match P.info? t, ia.zero with
   | some it, some z => match lacking want it.methods with
    | true => some (.tuple #[z, .bool false], orc, [])
    | false => none
   | _, _ => none
  | _, _, _ => none
 | _ => none
def special (P : Program) (o : Op) (ev : Operand → Value) : List Nat → Option (Value × List Nat × List Prop)
 | m :: orc => match Nat.beq m 199 with
  | true => specialAt P o ev orc
  | false => none
 | [] => none
theorem add_plain (a : Addr) (n : Nat) (h : a.spot = none) : a.add n = ⟨a.block, a.off + n, none⟩ := by
 unfold Addr.add
 split
 ·subst_vars
  exact addr_eq rfl h
 ·rfl
theorem specialAt_sound {P : Program} {o : Oper} {ev : Operand → Value} {orc orc' : List Nat} {v : Value} {cs : List Prop} (h : specialAt P o.op ev orc = some (v, orc', cs)) (hc : all cs) (w : World) : (execOp ev o).run P w = .ok (.value v) w := by
 unfold specialAt at h
 split at h
 ·rename_i c x y ho
  split at h
  ·rename_i t r ht
   split at h
   ·cases h
    simp only [execOp, ho, ht]
    rfl
   ·cases h
  ·rename_i t r ht
   split at h
   ·cases h
    simp only [execOp, ho, ht]
    rfl
   ·cases h
  ·rename_i t b r _ _ ht
   cases h
   have e : t = flag b := hc.1
   simp only [execOp, ho, ht, ← e]
   cases t <;> rfl
  ·cases h
 ·rename_i t x i ho
  split at h
  ·rename_i b f len _ k n e hx hi hu
   split at h
   ·rename_i inf hinf
    cases h
    obtain ⟨h0, h1, _⟩ := hc
    simp only [execOp, ho, Instr.indexAt, hx, hi, asIntOf]
    simp [go_sem, run_underlying hu, Sem.run_bind, sizeOf, typeInfo, program, Sem.run, hinf, h0, h1, add_plain ⟨b, f, none⟩ _ rfl, offAt_eq]
   ·cases h
  ·cases h
 ·rename_i t x lo ho
  split at h
  ·rename_i b f len cap k n e hx hi hu
   split at h
   ·rename_i inf hinf
    cases h
    obtain ⟨h0, h1, _⟩ := hc
    simp only [execOp, ho, Instr.sliceAt, hx, hi, asIntOf]
    have hle : n ≤ (len : Int) := h1
    simp [hi, go_sem, run_underlying hu, Sem.run_bind, Instr.slice, Instr.sliceBounds, Instr.sliceBound, asIntOf, sizeOf, typeInfo, program, Sem.run, hinf, h0, h1, add_plain ⟨b, f, none⟩ _ rfl]
    unfold cutBy
    by_cases hcap : cap = n.toNat <;> simp [hcap]
   ·cases h
  ·cases h
 ·rename_i t x hi' ho
  split at h
  ·rename_i b f len cap k n e hx hi hu
   split at h
   ·rename_i inf hinf
    cases h
    obtain ⟨h0, h1, _⟩ := hc
    simp only [execOp, ho, Instr.sliceAt, hx, hi, asIntOf]
    have hle : n ≤ (cap : Int) := h1
    simp [hi, go_sem, run_underlying hu, Sem.run_bind, Instr.slice, Instr.sliceBounds, Instr.sliceBound, asIntOf, sizeOf, typeInfo, program, Sem.run, hinf, h0, hle, add_plain ⟨b, f, none⟩ _ rfl]
   ·cases h
  ·cases h
 ·rename_i x xt a ho
  split at h
  ·rename_i t v' want ia hx hu ha
   split at h
   ·rename_i it z hit hz
    split at h
    ·rename_i hl
     cases h
     obtain ⟨m, hm⟩ := lacking_some hl
     simp only [execOp, ho, Instr.typeAssert, hx]
     simp [go_sem, run_underlying hu, Sem.run_bind, zeroValue, typeInfo, program, Sem.run, hit, ha, hz, hm]
    ·cases h
   ·cases h
  ·cases h
 ·cases h
theorem special_sound {P : Program} {o : Oper} {ev : Operand → Value} {orc orc' : List Nat} {v : Value} {cs : List Prop} (h : special P o.op ev orc = some (v, orc', cs)) (hc : all cs) (w : World) : (execOp ev o).run P w = .ok (.value v) w := by
 unfold special at h
 split at h
 ·split at h
  ·exact specialAt_sound h hc w
  ·cases h
 ·cases h
def fltR (P : Program) (o : Oper) (ev : Operand → Value) (hp : List Blk) (orc : List Nat) : Option (Value × List Nat × List (Nat × Nat) × List Prop) :=
 match special P o.op ev orc with
 | some (v, r, cs) => some (v, r, [], cs)
 | none => match semR P hp (execOp ev o) orc [] [] with
  | some (.value v, r, ps, cs) => some (v, r, ps, cs)
  | _ => none
theorem fltR_sound {P : Program} {o : Oper} {ev : Operand → Value} {hp : List Blk} {orc orc' : List Nat} {v : Value} {ps : List (Nat × Nat)} {cs : List Prop} (h : fltR P o ev hp orc = some (v, orc', ps, cs)) (ha : agree ps) (hc : all cs) (w : World) (hw : Holds w hp) : (execOp ev o).run P w = .ok (.value v) w := by
 unfold fltR at h
 split at h
 ·rename_i v' r' cs' hr
  cases h
  exact special_sound hr hc w
 ·split at h
  ·rename_i v' r' ps' cs' hr
   cases h
   exact (semR_sound P _ _ _ _ _ _ _ _ _ hr ha hc).1 w hw
  ·cases h
def asked {β : Type} : List Prop → Tree β → Tree β
 | [], t => t
 | c :: cs, t => .ask c (asked cs t)
theorem sat_asked {β : Type} {cs : List Prop} {t : Tree β} {Q : β → Prop} (h : (asked cs t).sat Q) : all cs ∧ t.sat Q := by
 induction cs with
 | nil => exact ⟨trivial, h⟩
 | cons c cs ih => exact ⟨⟨h.1, (ih h.2).1⟩, (ih h.2).2⟩
def fixT (t : Array Value) (d : Tmp) (b : Bool) : Array Value := t.setIfInBounds d (.bool b)
theorem fixT_same {t : Array Value} {d : Tmp} {b : Bool} (h : t[d]? = some (.bool b)) : fixT t d b = t := by
 unfold fixT
 apply Array.ext_getElem?
 intro i
 rw [Array.getElem?_setIfInBounds]
 split
 ·rename_i e
  subst e
  obtain ⟨h1, h2⟩ := Array.getElem?_eq_some_iff.1 h
  simp [h1, h2]
 ·rfl
def fixO (t : Array Value) (c : Operand) (b : Bool) : Array Value := match c with
 | .tmp d => fixT t d b
 | _ => t
theorem fixO_same {t : Array Value} {c : Operand} {b : Bool} (h : evalT t c = .bool b) : fixO t c b = t := by
 cases c with
 | tmp d =>
  refine fixT_same ?_
  unfold evalT Act.eval at h
  simp only [] at h
  cases ht : t[d]? with
  | none =>
   rw [Array.getD_eq_getD_getElem?, ht] at h
   cases h
  | some v =>
   rw [Array.getD_eq_getD_getElem?, ht] at h
   simp at h
   rw [h]
 | _ => rfl
def guarded {E β : Type} (ops : Array Oper) (o : Oper) (t : Array Value) (s : St E) (yes no : Array Value → St E → Tree β) : Tree β :=
 match o.guard with
 | none => yes t s
 | some (j, want) => match (ops[j]?).bind (·.dst) with
  | none => no t s
  | some d => match t[d]? with
   | some (.bool x) => tested x s fun b s => match b, want with
    | true, true => yes (fixT t d true) s
    | false, false => yes (fixT t d false) s
    | true, false => no (fixT t d true) s
    | false, true => no (fixT t d false) s
   | _ => no t s
theorem wanted_none {o : Oper} {y : Nat → Option Bool} (hg : o.guard = none) : Region.wanted o y = true := by unfold Region.wanted; rw [hg]
theorem wanted_some {o : Oper} {y : Nat → Option Bool} {j : Nat} {want : Bool} (hg : o.guard = some (j, want)) : Region.wanted o y = (y j == some want) := by unfold Region.wanted; rw [hg]
theorem sat_guarded {E β : Type} {ops : Array Oper} {o : Oper} {t : Array Value} {s : St E} {yes no : Array Value → St E → Tree β} {Q : β → Prop} (h : (guarded ops o t s yes no).sat Q) :
  ∃ r, (Region.wanted o (yielded ops t) = true ∧ (yes t { s with orc := r }).sat Q) ∨ (Region.wanted o (yielded ops t) = false ∧ (no t { s with orc := r }).sat Q) := by
 unfold guarded at h
 split at h
 ·rename_i hg
  exact ⟨s.orc, .inl ⟨wanted_none hg, h⟩⟩
 ·rename_i j want hg
  rw [wanted_some hg]
  unfold yielded
  split at h
  ·rename_i hd
   exact ⟨s.orc, .inr ⟨by simp [hd], h⟩⟩
  ·rename_i d hd
   simp only [hd, Option.bind_some]
   split at h
   ·rename_i x hx
    obtain ⟨r, h⟩ := sat_tested h
    refine ⟨r, ?_⟩
    simp only [hx]
    cases x <;> cases want <;> simp only [] at h <;> rw [fixT_same hx] at h
    ·exact .inl ⟨by simp, h⟩
    ·exact .inr ⟨by simp, h⟩
    ·exact .inr ⟨by simp, h⟩
    ·exact .inl ⟨by simp, h⟩
   ·rename_i hn
    refine ⟨s.orc, .inr ⟨?_, h⟩⟩
    split
    ·rename_i b hb
     exact (hn b hb).elim
    ·simp
def Prot.join (pr : Prot) (n : Nat) (is : List Nat) : Prot := ⟨max pr.n n, pr.l ++ is⟩
def sure {β : Type} (md : Nat) (b : Bool) (t : Tree β) : Tree β := match md with
 | 0 => .same b.toNat 1 t
 | _ => .ask (b = true) t
theorem sat_sure {β : Type} {md : Nat} {b : Bool} {t : Tree β} {Q : β → Prop} (h : (sure md b t).sat Q) : b = true ∧ t.sat Q := by
 unfold sure at h
 split at h
 ·obtain ⟨h1, h2⟩ := h
  exact ⟨by cases b <;> simp_all, h2⟩
 ·exact h
def appendAt (P : Program) (o : Op) : Option (Operand × Operand × TypeId × TypeId × Nat × Nat) := match o with
 | .call ⟨.builtin .append, args, tys⟩ => match args.toList, tys.toList with
  | [a, b], [t, t'] => match Nat.beq t t', P.underlying t with
   | true, some (.slice e) => match P.info? e with
    | some i => match i.zero with
     | some z => match Nat.beq z.cells.size i.size, Nat.blt 0 i.size with
      | true, true => some (a, b, t, e, i.size, i.bytes)
      | _, _ => none
     | none => none
    | none => none
   | _, _ => none
  | _, _ => none
 | _ => none
def cut (a : Array Value) (f o n : Nat) : Array Value := match f with
 | 0 => a
 | _ => a.extract o (o + n)
def appendT {E : Type} (pr : Prot) (v x : Value) (e size bytes : Nat) (s : St E) : Tree (Value × St E) :=
 match x with
 | .slice (some ⟨xb, xo, none⟩) m _ => match s.orc with
  | md :: f2 :: p2 :: o => match s.hp[p2]? with
   | none => .fail
   | some x2 => .same xb x2.b (sure md (Nat.blt 0 m) (sure md (Nat.beq (cut x2.cs.arr f2 xo (m * size)).size (m * size)) (sure md ((cut x2.cs.arr f2 xo (m * size)).toList.all (·.oneCell')) (sure md (match f2 with | 0 => Nat.beq xo 0 | _ => true) (match v with
    | .slice none 0 0 => sure md (Nat.ble m maxLen) (sure md (Nat.ble (m * bytes) 140737488355328) (.fresh fun g => .fresh fun d =>
     .done (.slice (some ⟨g, 0, none⟩) m (m + d), { s with orc := o, hp := s.hp ++ [⟨g, .own (cut x2.cs.arr f2 xo (m * size)) (m + d) size, e⟩] })))
    | .slice (some ⟨g0, 0, none⟩) n c => match o with
     | f :: p :: o => match s.hp[p]? with
      | none => .fail
      | some x1 => match x1.cs, pr.has p with
       | .own arr cap sz, false => .same g0 x1.b (.same c cap (.same sz size (.same x1.t e (sure md (Nat.beq (cut arr f 0 (n * size)).size (n * size)) (sure md (Nat.ble (n + m) maxLen) (sure md (Nat.ble ((n + m) * bytes) 140737488355328) (.fresh fun g => .fresh fun d =>
        .done (.slice (some ⟨g, 0, none⟩) (n + m) (n + m + d), { s with orc := o, hp := s.hp.set p ⟨g, .own (cut arr f 0 (n * size) ++ cut x2.cs.arr f2 xo (m * size)) (n + m + d) size, e⟩ }))))))))
       | _, _ => .fail
     | _ => .fail
    | _ => .fail)))))
  | _ => .fail
 | _ => .fail
section
variable {E : Type} (P : Program) (callT : Prot → FuncId → Array Value → St E → Tree (Value × St E))
def opT (pr : Prot) (o : Oper) (t : Array Value) (s : St E) : Tree (Value × St E) :=
 match special P o.op (evalT t) s.orc with
 | some (v, r, cs) => asked cs (.done (v, { s with orc := r }))
 | none => match appendAt P o.op with
  | some (a, b, _, e, size, bytes) => appendT pr (evalT t a) (evalT t b) e size bytes s
  | none => (semT P pr (execOp (evalT t) o) s).bind fun x => match x.1 with
   | .value v => .done (v, x.2)
   | .skip => .done (undef, x.2)
   | .enter f args => callT pr f args x.2
   | _ => .fail
def opsT (pr : Prot) (ops : Array Oper) : List Nat → Array Value → St E → Tree (Array Value × St E)
 | [], t, s => .done (t, s)
 | i :: is, t, s => match ops[i]? with
  | none => .fail
  | some o => guarded ops o t s (fun t s => (opT P callT pr o t s).bind fun x => opsT pr ops is (putT t o.dst x.1) x.2) (fun t s => opsT pr ops is (putT t o.dst undef) s)
def pickB (is : List Nat) (hp : List Blk) : List Blk := is.filterMap (hp[·]?)
def spineT (pr : Prot) (ops : Array Oper) (hp0 : List Blk) (tl : Nat) (is : List Nat) (i : Nat) (l : Array Bool) (t : Array Value) (s : St E) (k : Array Bool → Array Value → St E → Tree (Array Value × St E)) : Tree (Array Value × St E) :=
 match ops[i]? with
 | none => .fail
 | some o => guarded ops o t s (fun t s => (opT P callT (pr.join (match (l.setIfInBounds i true).getD tl false with | true => 0 | false => hp0.length) is) o t s).bind fun x => k (l.setIfInBounds i true) (putT t o.dst x.1) x.2)
   (fun t s => match (l.setIfInBounds i true).getD tl false with
    | true => .fail
    | false => k (l.setIfInBounds i true) (putT t o.dst undef) s)
def moveT (pr : Prot) (ops : Array Oper) (hp0 : List Blk) (tl : Nat) (is : List Nat) : Nat → Array Bool → Array Value → St E → Tree (Array Value × St E)
 | 0, l, t, s => match (Region.ready .any ops l).isEmpty with
  | true => .done (t, s)
  | false => .fail
 | n + 1, l, t, s => match s.orc with
  | [] => .fail
  | m :: orc => match ops[m / 4]? with
   | none => .fail
   | some o => match m % 4 with
    | 0 => match !l.getD tl false && m / 4 != tl && Region.free .any ops l (m / 4) && (Region.ready .any ops l).contains (m / 4) && (match ops[tl]? with | some x => x.after.any (fun e => Region.binds .any e && e.on == m / 4) | none => true) with
     | false => .fail
     | true => guarded ops o t { s with orc := orc } (fun t s => match fltR P o (evalT t) hp0 s.orc with
       | none => .fail
       | some (v, r, ps, cs) => sames ps (asked cs (moveT pr ops hp0 tl is n (l.setIfInBounds (m / 4) true) (putT t o.dst v) { s with orc := r })))
      (fun t s => moveT pr ops hp0 tl is n (l.setIfInBounds (m / 4) true) (putT t o.dst undef) s)
    | 2 => match m / 4 != tl && Region.free .any ops l (m / 4) && (Region.ready .any ops l).contains (m / 4) with
     | false => .fail
     | true => guarded ops o t { s with orc := orc } (fun t s => match fltR P o (evalT t) (pickB is hp0) s.orc with
       | none => .fail
       | some (v, r, ps, cs) => sames ps (asked cs (moveT pr ops hp0 tl is n (l.setIfInBounds (m / 4) true) (putT t o.dst v) { s with orc := r })))
      (fun t s => moveT pr ops hp0 tl is n (l.setIfInBounds (m / 4) true) (putT t o.dst undef) s)
    | 1 => match Region.ready .any ops l == [m / 4] with
     | true => spineT P callT pr ops hp0 tl is (m / 4) l t { s with orc := orc } fun l t s => moveT pr ops hp0 tl is n l t s
     | false => .fail
    | _ => match Region.ready .any ops l, orc with
     | [i, j], k :: orc => .both (spineT P callT pr ops hp0 tl is i l t { s with orc := orc.drop k } fun l t s => moveT pr ops hp0 tl is n l t s)
      (spineT P callT pr ops hp0 tl is j l t { s with orc := orc.take k } fun l t s => moveT pr ops hp0 tl is n l t s)
     | _, _ => .fail
inductive Ex where
 | norm
 | ret
 | brk (id : Nat)
def loopT (f : Array Value → St E → Tree (Ex × Array Value × St E)) : Nat → Array Value → St E → Tree (Ex × Array Value × St E)
 | 0, _, _ => .fail
 | n + 1, t, s => (f t s).bind fun x => match x.1 with
  | .norm => loopT f n x.2.1 x.2.2
  | e => .done (e, x.2)
def codeT (pr : Prot) (rounds : Nat) : Code → Array Value → St E → Tree (Ex × Array Value × St E)
 | .skip, t, s => .done (.norm, t, s)
 | .region _ ops false, t, s => (opsT P callT pr ops (List.range ops.size) t s).bind fun x => .done (.norm, x)
 | .region _ ops true, t, s => match s.orc, Region.noSelect ops with
  | tl :: k :: orc, true => (moveT P callT pr ops s.hp tl (orc.take k) ops.size (Array.replicate ops.size false) t { s with orc := orc.drop k }).bind fun x => .done (.norm, x)
  | _, _ => .fail
 | .seq a b, t, s => (codeT pr rounds a t s).bind fun x => match x.1 with
  | .norm => codeT pr rounds b x.2.1 x.2.2
  | e => .done (e, x.2)
 | .cond c a b, t, s => match evalT t c with
  | .bool x => tested x s fun x s => match x with
   | true => codeT pr rounds a (fixO t c true) s
   | false => codeT pr rounds b (fixO t c false) s
  | _ => .fail
 | .block id b, t, s => (codeT pr rounds b t s).bind fun x => match x.1 with
  | .brk id' => match id' == id with
   | true => .done (.norm, x.2)
   | false => .done (.brk id', x.2)
  | e => .done (e, x.2)
 | .loop b, t, s => loopT (codeT pr rounds b) rounds t s
 | .exit id, t, s => .done (.brk id, t, s)
 | .scope b, t, s => codeT pr rounds b t s
 | .ret, t, s => .done (.ret, t, s)
 | _, _, _ => .fail
end
def pickT {E : Type} (ext : FuncId → Option (Array Value → St E → Tree (Value × St E))) (f : Prot → FuncId → Array Value → St E → Tree (Value × St E)) (pr : Prot) (g : FuncId) (args : Array Value) (s : St E) : Tree (Value × St E) := match ext g with
 | some x => x args s
 | none => f pr g args s
def bodyT {E : Type} (P : Program) (ext : FuncId → Option (Array Value → St E → Tree (Value × St E))) (rounds : Nat) : Nat → Prot → FuncId → Array Value → St E → Tree (Value × St E)
 | 0, _, _, _, _ => .fail
 | n + 1, pr, f, args, s => match P.funcs[f]? with
  | none => .fail
  | some fn => match fn.body with
   | none => .fail
   | some c => (codeT P (pickT ext (bodyT P ext rounds n)) pr rounds c (args ++ Array.replicate (fn.ntmps - args.size) undef) s).bind fun x => match x.1 with
    | .brk _ => .fail
    | _ => match semR P x.2.2.hp (results fn x.2.1) x.2.2.orc [] [] with
     | some (v, r, ps, cs) => sames ps (asked cs (.done (v, { x.2.2 with orc := r })))
     | none => .fail
section
variable {P : Program} {ops : Array Oper} {Q : Exit → Act → World → Prop} {S0 : World → Prop} {tl : Nat}
def wpTill (P : Program) (ops : Array Oper) (Q : Exit → Act → World → Prop) (S0 S1 : World → Prop) (tl : Nat) : Nat → Array Bool → Act → World → Prop
 | 0, l, a, w => Region.ready .any ops l = [] ∧ Q .normal a w
 | n + 1, l, a, w => (Region.ready .any ops l = [] → Q .normal a w) ∧
  ∀ i ∈ Region.ready .any ops l, wpOp P ops Q i (fun a' w' => (S1 w' ∧ ((l.setIfInBounds i true).getD tl false = false → S0 w')) ∧ wpTill P ops Q S0 S1 tl n (l.setIfInBounds i true) a' w') a w
variable {S1 : World → Prop}
theorem wpAny_of_till : ∀ (n : Nat) (l : Array Bool) (a : Act) (w : World), wpTill P ops Q S0 S1 tl n l a w → wpAny P .any ops Q n l a w
 | 0, _, _, _, h => h
 | n + 1, _, _, _, h => ⟨h.1, fun i hi => wpOp_mono (fun a' w' h' => wpAny_of_till n _ a' w' h'.2) (h.2 i hi)⟩
theorem getD_set_other {l : Array Bool} {i j : Nat} (d : Bool) (h : i ≠ j) : (l.setIfInBounds i true).getD j d = l.getD j d := getD_set_ne d h
theorem unlisted_of_ready {i j : Nat} {oj : Oper} {l : Array Bool} (hr : i ∈ Region.ready .any ops l) (hall : ∀ e ∈ oj.after, Region.binds .any e = true → l.getD e.on false = true) : ∀ e ∈ oj.after, Region.binds .any e = true → e.on ≠ i := by
 intro e he hb heq
 have h1 := hall e he hb
 have h0 := (mem_ready.1 hr).1
 rw [heq] at h1
 rcases Nat.lt_or_ge i l.size with h' | h'
 ·simp [h'] at h0 h1; rw [h0] at h1; cases h1
 ·simp [Array.getElem?_eq_none h'] at h1
theorem till_first {i : Nat} {oi : Oper} {v : Value} (hi : ops[i]? = some oi) (hsel : Region.noSelect ops = true) (hQ : ∀ c a w, ¬ Q (.panic c) a w)
  (htl : tl ≠ i) (hw : ∀ x, ops[tl]? = some x → x.after.any (fun e => Region.binds .any e && e.on == i) = true) :
  ∀ (n : Nat) (l : Array Bool) (a : Act) (w : World),
   (∀ j oj, ops[j]? = some oj → j ≠ i → l.getD j true = false → (∀ e ∈ oj.after, Region.binds .any e = true → e.on ≠ i) → oi.apart ops oj = true) →
   i ∈ Region.ready .any ops l → l.getD tl false = false → YieldsIf P ops S0 oi v a → S0 w → S1 w →
   wpTill P ops Q S0 S1 tl n (l.setIfInBounds i true) (a.put oi.dst v) w → wpTill P ops Q S0 S1 tl (n + 1) l a w := by
 have hs := Region.noSelect_spec hsel
 intro n
 induction n with
 | zero =>
  intro l a w _ hr _ hy hS hS1 H
  refine ⟨fun h => (by rw [h] at hr; cases hr), fun j hj => ?_⟩
  by_cases hji : j = i
  ·subst hji; exact hy.wpOp hi hS ⟨⟨hS1, fun _ => hS⟩, H⟩
  ·have := ready_mono hj hji
   rw [H.1] at this
   cases this
 | succ n ih =>
  intro l a w hfree hr hl hy hS hS1 H
  refine ⟨fun h => (by rw [h] at hr; cases hr), fun j hj => ?_⟩
  by_cases hji : j = i
  ·subst hji; exact hy.wpOp hi hS ⟨⟨hS1, fun _ => hS⟩, H⟩
  ·have h1 := H.2 j (ready_mono hj hji)
   obtain ⟨hjun, oj, hoj, hall⟩ := mem_ready.1 hj
   have hnot := unlisted_of_ready (j := j) hr hall
   have hjtl : tl ≠ j := by
    rintro rfl
    obtain ⟨e, he, hb⟩ := Array.any_eq_true'.1 (hw _ hoj)
    simp at hb
    exact hnot e he hb.1 hb.2
   have h2 := wpOp_putIf hoj (hfree j oj hoj hji hjun hnot) (fun cs b => hs i oi cs b hi) (fun cs b => hs j oj cs b hoj) (fun c a w h => (hQ _ _ _ h).elim) hy h1
   have hl' : ((l.setIfInBounds i true).setIfInBounds j true).getD tl false = false := by
    rw [getD_set_other _ (Ne.symm hjtl), getD_set_other _ (Ne.symm htl), hl]
   have hl2 : (l.setIfInBounds j true).getD tl false = false := by
    rw [getD_set_other _ (Ne.symm hjtl), hl]
   refine wpOp_mono (fun a' w' h3 => ⟨⟨h3.2.1.1, fun _ => h3.2.1.2 hl'⟩, ih (l.setIfInBounds j true) a' w' ?_ (ready_mono hr (Ne.symm hji)) hl2 h3.1 (h3.2.1.2 hl') h3.2.1.1 ?_⟩) h2
   ·intro k ok hk hki hun hno
    refine hfree k ok hk hki ?_ hno
    by_cases hjk : j = k
    ·subst hjk; exact hjun
    ·rw [getD_set_ne true hjk] at hun; exact hun
   ·rw [Array.setIfInBounds_comm _ _ hji]
    exact h3.2.2
theorem till_first' {i : Nat} {oi : Oper} {v : Value} (hi : ops[i]? = some oi) (hsel : Region.noSelect ops = true) (hQ : ∀ c a w, ¬ Q (.panic c) a w) (htl : tl ≠ i) :
  ∀ (n : Nat) (l : Array Bool) (a : Act) (w : World),
   (∀ j oj, ops[j]? = some oj → j ≠ i → l.getD j true = false → (∀ e ∈ oj.after, Region.binds .any e = true → e.on ≠ i) → oi.apart ops oj = true) →
   i ∈ Region.ready .any ops l → YieldsIf P ops S1 oi v a → (l.getD tl false = false → S0 w) → S1 w →
   wpTill P ops Q S0 S1 tl n (l.setIfInBounds i true) (a.put oi.dst v) w → wpTill P ops Q S0 S1 tl (n + 1) l a w := by
 have hs := Region.noSelect_spec hsel
 intro n
 induction n with
 | zero =>
  intro l a w _ hr hy hS hS1 H
  refine ⟨fun h => (by rw [h] at hr; cases hr), fun j hj => ?_⟩
  by_cases hji : j = i
  ·subst hji
   exact hy.wpOp hi hS1 ⟨⟨hS1, fun e => hS (by rwa [getD_set_other _ (Ne.symm htl)] at e)⟩, H⟩
  ·have := ready_mono hj hji
   rw [H.1] at this
   cases this
 | succ n ih =>
  intro l a w hfree hr hy hS hS1 H
  refine ⟨fun h => (by rw [h] at hr; cases hr), fun j hj => ?_⟩
  by_cases hji : j = i
  ·subst hji
   exact hy.wpOp hi hS1 ⟨⟨hS1, fun e => hS (by rwa [getD_set_other _ (Ne.symm htl)] at e)⟩, H⟩
  ·have h1 := H.2 j (ready_mono hj hji)
   obtain ⟨hjun, oj, hoj, hall⟩ := mem_ready.1 hj
   have hnot := unlisted_of_ready (j := j) hr hall
   have h2 := wpOp_putIf hoj (hfree j oj hoj hji hjun hnot) (fun cs b => hs i oi cs b hi) (fun cs b => hs j oj cs b hoj) (fun c a w h => (hQ _ _ _ h).elim) hy h1
   have hl' : (l.setIfInBounds j true).getD tl false = false → ((l.setIfInBounds i true).setIfInBounds j true).getD tl false = false := by
    intro e
    rw [Array.setIfInBounds_comm _ _ (Ne.symm hji), getD_set_other _ (Ne.symm htl)]
    exact e
   refine wpOp_mono (fun a' w' h3 => ⟨⟨h3.2.1.1, fun e => h3.2.1.2 (hl' e)⟩, ih (l.setIfInBounds j true) a' w' ?_ (ready_mono hr (Ne.symm hji)) h3.1 (fun e => h3.2.1.2 (hl' e)) h3.2.1.1 ?_⟩) h2
   ·intro k ok hk hki hun hno
    refine hfree k ok hk hki ?_ hno
    by_cases hjk : j = k
    ·subst hjk; exact hjun
    ·rw [getD_set_ne true hjk] at hun; exact hun
   ·rw [Array.setIfInBounds_comm _ _ hji]
    exact h3.2.2
end
variable {S : Side} {P : Program} {L : List Nat} {w0 : World} {pr : Prot} {PN : List (Nat × Blk)}
def post (S : Side) (L : List Nat) (w0 : World) (pr : Prot) (PN : List (Nat × Blk)) (Q : Ex × Array Value × St S.E → Prop) : Exit → Act → World → Prop
 | .normal, a, w => a.defers = [] ∧ ∃ s, Q (.norm, a.tmps, s) ∧ Rel S L w0 pr PN s w
 | .ret, a, w => a.defers = [] ∧ ∃ s, Q (.ret, a.tmps, s) ∧ Rel S L w0 pr PN s w
 | .exit id, a, w => a.defers = [] ∧ ∃ s, Q (.brk id, a.tmps, s) ∧ Rel S L w0 pr PN s w
 | _, _, _ => False
def CallOK (S : Side) (P : Program) (callT : Prot → FuncId → Array Value → St S.E → Tree (Value × St S.E)) : Prop :=
 ∀ L w0 pr PN f args s w Q, (callT pr f args s).sat Q → Rel S L w0 pr PN s w → Calls P f args w fun e w' => ∃ v s', e = .returned v ∧ Q (v, s') ∧ Rel S L w0 pr PN s' w'
variable {callT : Prot → FuncId → Array Value → St S.E → Tree (Value × St S.E)}
theorem cut_at {a : Array Value} {f o n j : Nat} {u : Value} (h0 : f = 0 → o = 0) (h : (cut a f o n)[j]? = some u) : a[o + j]? = some u := by
 unfold cut at h
 split at h
 ·rw [h0 rfl, Nat.zero_add]; exact h
 ·rw [Array.getElem?_extract] at h
  split at h
  ·exact h
  ·cases h
theorem appendAt_some {P : Program} {o : Op} {a b : Operand} {t e : TypeId} {size bytes : Nat} (h : appendAt P o = some (a, b, t, e, size, bytes)) :
  o = .call { callee := .builtin .append, args := #[a, b], argTypes := #[t, t] } ∧ P.underlying t = some (.slice e) ∧ (∃ i z, P.info? e = some i ∧ i.zero = some z ∧ i.size = size ∧ i.bytes = bytes ∧ z.cells.size = size) ∧ 0 < size := by
 unfold appendAt at h
 split at h
 ·rename_i args tys
  split at h
  ·rename_i a' b' t1 t2 ha ht
   split at h
   ·rename_i e' hb hu
    split at h
    ·rename_i i hi
     split at h
     ·rename_i z hz
      split at h
      ·rename_i h1 h2
       cases h
       have e1 : t = t2 := Nat.eq_of_beq_eq_true hb
       subst e1
       refine ⟨?_, hu, ⟨i, z, hi, hz, rfl, rfl, Nat.eq_of_beq_eq_true h1⟩, by simpa using h2⟩
       have ea : args = #[a, b] := by apply Array.ext'; simpa using ha
       have et : tys = #[t, t] := by apply Array.ext'; simpa using ht
       rw [ea, et]
      ·cases h
     ·cases h
    ·cases h
   ·cases h
  ·cases h
 ·cases h
theorem own_form {w : World} {e : TypeId} {size n g cap : Nat} {xs : List Value} (h : w.ownsRow 0 e size (.slice (some ⟨g, 0, none⟩) n cap) n xs) : n ≤ cap ∧ (⟨g, .own xs.toArray cap size, e⟩ : Blk).holds w := by
 rcases h.2 with ⟨h1, _⟩ | ⟨g', cap', cur, h1, _, hg, hn, hm, hs, ht⟩
 ·cases h1
 ·cases h1
  refine ⟨hn, _, hg, .inl ⟨(cur.toList.drop (n * size)).toArray, ?_, ?_, hm⟩⟩
  ·simp only [Cells.arr]
   congr 1
   apply Array.ext'
   simp only [Array.toList_append]
   rw [← ht, List.take_append_drop]
  ·have h2 := h.1
   simp only [List.size_toArray, List.length_drop, Array.length_toList, h2, hs]
   have : n * size ≤ cap * size := Nat.mul_le_mul_right _ hn
   omega
theorem appendT_sound {o : Oper} {t : Array Value} {s : St S.E} {w : World} {Q : Value × St S.E → Prop} {Qx : Exit → Act → World → Prop} {a b : Operand} {ty e : TypeId} {size bytes : Nat} (ha : appendAt P o.op = some (a, b, ty, e, size, bytes)) (h : (appendT pr (evalT t a) (evalT t b) e size bytes s).sat Q) (hr : Rel S L w0 pr PN s w) :
  o.wp P ⟨t, []⟩ w (fun a w' => ∃ v s', a = ⟨putT t o.dst v, []⟩ ∧ Q (v, s') ∧ Rel S L w0 pr PN s' w') Qx := by
 obtain ⟨hop, hu, ⟨i, z, hi, hz, hs1, hs2, hs3⟩, hpos⟩ := appendAt_some ha
 unfold appendT at h
 split at h
 ·rename_i xb xo m mc hx
  split at h
  ·rename_i md f2 p2 orc horc
   split at h
   ·exact h.elim
   ·rename_i x2 hx2
    obtain ⟨rfl, h⟩ := h
    obtain ⟨g1, h⟩ := sat_sure h
    obtain ⟨g2, h⟩ := sat_sure h
    obtain ⟨g3, h⟩ := sat_sure h
    obtain ⟨g4, h⟩ := sat_sure h
    have hm : 0 < m := by simpa using g1
    have hl := Nat.eq_of_beq_eq_true g2
    have h0 : f2 = 0 → xo = 0 := by
     rintro rfl
     exact Nat.eq_of_beq_eq_true g4
    have hnews : ∀ (j : Nat) (u : Value), (cut x2.cs.arr f2 xo (m * size)).toList[j]? = some u → w.cell? ((⟨x2.b, xo, none⟩ : Addr).add j) = some u := by
     intro j u hj
     rw [add_plain _ _ rfl]
     exact cell_hold (hr.has.each x2 (List.mem_of_getElem? hx2)) _ _ (cut_at h0 (by simpa using hj))
    have h1 : ∀ u ∈ (cut x2.cs.arr f2 xo (m * size)).toList, u.oneCell' = true := fun u hu => List.all_eq_true.1 g3 u hu
    generalize hcut : cut x2.cs.arr f2 xo (m * size) = nw at h hl hnews h1
    split at h
    ·rename_i hv
     obtain ⟨g5, h⟩ := sat_sure h
     obtain ⟨g6, h⟩ := sat_sure h
     refine wp_append_lies w a b ty hop 0 e i z size bytes hu hi hz hs1 hs2 hs3 hpos (.slice none 0 0) 0 [] hv (World.ownsRow_nil _ _ _ _) ⟨x2.b, xo, none⟩ m mc nw.toList hx (by simpa using hl) hnews h1 hm (by simpa using g5) (by simpa using g6) (Nat.zero_le _) _ rfl ?_
     intro g cap w' hown hgrow hat hlt
     rw [Nat.zero_add] at hown
     obtain ⟨hc, hh⟩ := own_form hown
     have ho : Only [] w w' := ⟨hgrow.os, hgrow.tape, hgrow.output, hgrow.size, fun k hk _ => hgrow.block k hk (by simp [Value.ownBlock])⟩
     have hg : g = w.heap.size := by
      rcases hat with e | e
      ·simp [Value.ownBlock] at e
      ·exact e
     have h2 := h g (cap - m)
     simp only [Tree.sat, show m + (cap - m) = cap by omega] at h2
     refine ⟨_, _, ?_, h2, (hr.orc orc).add ho ?_ (by simp [hg])⟩
     ·rw [Nat.zero_add]; exact put_act _ _ _
     ·simpa using hh
    ·rename_i g0 n c hv
     obtain _ | ⟨f, _ | ⟨p, orc'⟩⟩ := orc
     ·exact False.elim h
     ·exact False.elim h
     dsimp only at h
     split at h
     ·exact h.elim
     ·rename_i x1 hx1
      split at h
      ·rename_i arr cap sz hcs hpr
       obtain ⟨rfl, rfl, rfl, rfl, h⟩ := h
       obtain ⟨g5, h⟩ := sat_sure h
       obtain ⟨g6, h⟩ := sat_sure h
       obtain ⟨g7, h⟩ := sat_sure h
       have hln := Nat.eq_of_beq_eq_true g5
       obtain ⟨rest, hr1, hr2⟩ := holds_cells (hr.has.each x1 (List.mem_of_getElem? hx1)) fun es c e => by rw [hcs] at e; cases e
       rw [hcs] at hr1 hr2
       obtain ⟨hr2, hr3⟩ := hr2
       simp only [Cells.arr] at hr1
       have hpre : (arr ++ rest).toList.take (n * sz) = (cut arr f 0 (n * sz)).toList := by
        apply List.ext_getElem?
        intro j
        by_cases hj : j < n * sz
        ·rw [List.getElem?_take, if_pos hj]
         have h2 : j < (cut arr f 0 (n * sz)).size := by omega
         have h3 := cut_at (a := arr) (f := f) (o := 0) (n := n * sz) (j := j) (fun _ => rfl) (Array.getElem?_eq_getElem h2)
         rw [Nat.zero_add] at h3
         simp only [Array.getElem?_toList]
         rw [Array.getElem?_append_left (Array.getElem?_eq_some_iff.1 h3).1, h3, Array.getElem?_eq_getElem h2]
        ·rw [List.getElem?_take, if_neg hj, List.getElem?_eq_none]
         simp; omega
       have hle : n ≤ c := by
        have h2 := congrArg List.length hpre
        simp only [List.length_take, Array.length_toList, Array.size_append] at h2
        have h3 : n * sz ≤ c * sz := by omega
        exact Nat.le_of_mul_le_mul_right h3 hpos
       have hown0 : w.ownsRow 0 x1.t sz (.slice (some ⟨x1.b, 0, none⟩) n c) n (cut arr f 0 (n * sz)).toList := ⟨by simpa using hln, .inr ⟨x1.b, c, _, rfl, Nat.zero_le _, hr1, hle, hr3, by simpa using hr2, hpre⟩⟩
       refine wp_append_lies w a b ty hop 0 x1.t i z sz bytes hu hi hz hs1 hs2 hs3 hpos _ n _ hv hown0 ⟨x2.b, xo, none⟩ m mc nw.toList hx (by simpa using hl) hnews h1 hm (by simpa using g6) (by simpa using g7) (Nat.zero_le _) _ rfl ?_
       intro g cap w' hown hgrow hat hlt
       obtain ⟨hc, hh⟩ := own_form hown
       have ho : Only [x1.b] w w' := ⟨hgrow.os, hgrow.tape, hgrow.output, hgrow.size, fun k hk hn => hgrow.block k hk (by simpa [Value.ownBlock] using hn)⟩
       have h2 := h g (cap - (n + m))
       simp only [Tree.sat, show n + m + (cap - (n + m)) = cap by omega] at h2
       refine ⟨_, _, put_act _ _ _, h2, hr.swap hx1 hpr ho ?_ ?_ orc'⟩
       ·rw [show ((cut arr f 0 (n * sz)).toList ++ nw.toList).toArray = cut arr f 0 (n * sz) ++ nw by apply Array.ext'; simp] at hh; exact hh
       ·rcases hat with e | e
        ·left
         simp [Value.ownBlock] at e
         exact e.symm
        ·right
         simp [e]
      ·exact h.elim
    ·exact h.elim
  ·exact h.elim
 ·exact h.elim
theorem opT_sound (hc : CallOK S P callT) {o : Oper} {t : Array Value} {s : St S.E} {w : World} {Q : Value × St S.E → Prop} {Qx : Exit → Act → World → Prop} (h : (opT P callT pr o t s).sat Q) (hr : Rel S L w0 pr PN s w) :
  o.wp P ⟨t, []⟩ w (fun a w' => ∃ v s', a = ⟨putT t o.dst v, []⟩ ∧ Q (v, s') ∧ Rel S L w0 pr PN s' w') Qx := by
 unfold opT at h
 split at h
 ·rename_i v r cs hsp
  obtain ⟨h1, h2⟩ := sat_asked h
  unfold Oper.wp
  rw [show (⟨t, []⟩ : Act).eval = evalT t from rfl, special_sound hsp h1 w]
  exact ⟨v, _, put_act _ _ _, h2, hr.orc r⟩
 split at h
 ·rename_i hap
  exact appendT_sound hap h hr
 ·unfold Oper.wp
  obtain ⟨a, w', s', e1, e2, e3⟩ := semT_sound P (L := L) (w0 := w0) (pr := pr) (PN := PN) _ _ s w (sat_bind _ _ _ h) hr
  rw [show (⟨t, []⟩ : Act).eval = evalT t from rfl, e1]
  cases a with
  | value v => exact ⟨v, s', put_act _ _ _, e2, e3⟩
  | skip => exact ⟨undef, s', put_act _ _ _, e2, e3⟩
  | enter f args =>
   refine (hc L w0 pr PN f args s' w' _ e2 e3).mono ?_
   rintro e w2 ⟨v, s2, rfl, h1, h2⟩
   exact ⟨v, s2, put_act _ _ _, h1, h2⟩
  | _ => exact e2.elim
theorem opsT_sound (hc : CallOK S P callT) {ops : Array Oper} {Q : Array Value × St S.E → Prop} {Qx : Exit → Act → World → Prop} (hQ : ∀ t s w, Q (t, s) → Rel S L w0 pr PN s w → Qx .normal ⟨t, []⟩ w) :
  ∀ (is : List Nat) (t : Array Value) (s : St S.E) (w : World), (opsT P callT pr ops is t s).sat Q → Rel S L w0 pr PN s w → wpOps P ops Qx is ⟨t, []⟩ w := by
 intro is
 induction is with
 | nil => exact fun t s w h hr => hQ _ _ _ h hr
 | cons i is ih =>
  intro t s w h hr
  unfold opsT at h
  unfold wpOps
  split at h
  ·exact h.elim
  ·rename_i o ho
   have run : ∀ s, Rel S L w0 pr PN s w → ((opT P callT pr o t s).bind fun x => opsT P callT pr ops is (putT t o.dst x.1) x.2).sat Q → o.wp P ⟨t, []⟩ w (wpOps P ops Qx is) Qx := by
    intro s hr h
    refine Oper.wp_mono ?_ (opT_sound hc (sat_bind _ _ _ h) hr)
    rintro a' w' ⟨v, s', rfl, h1, h2⟩
    exact ih _ _ _ h1 h2
   simp only [ho]
   obtain ⟨r, ⟨hb, h⟩ | ⟨hb, h⟩⟩ := sat_guarded h
   ·simp only [hb, if_true]
    exact .inl (run _ (hr.orc r) h)
   ·simp only [hb, Bool.false_eq_true, if_false]
    rw [put_act]
    exact ih _ _ _ h (hr.orc r)
theorem holds_pick {w : World} {hp : List Blk} (h : Holds w hp) (is : List Nat) : Holds w (pickB is hp) := by
 intro x hx
 obtain ⟨i, _, hi⟩ := List.mem_filterMap.1 hx
 exact h x (List.mem_of_getElem? hi)
def places (hp : List Blk) (is : List Nat) : List (Nat × Blk) := is.filterMap fun i => (hp[i]?).map fun x => (i, x)
theorem mem_places {hp : List Blk} {is : List Nat} {q : Nat × Blk} : q ∈ places hp is ↔ q.1 ∈ is ∧ hp[q.1]? = some q.2 := by
 unfold places
 rw [List.mem_filterMap]
 constructor
 ·rintro ⟨i, hi, h⟩
  cases hx : hp[i]? with
  | none => rw [hx] at h; cases h
  | some x =>
   rw [hx] at h
   cases h
   exact ⟨hi, hx⟩
 ·rintro ⟨h1, h2⟩
  exact ⟨q.1, h1, by rw [h2]; rfl⟩
theorem has_join {pr : Prot} {n : Nat} {is : List Nat} {p : Nat} : (pr.join n is).has p = true ↔ pr.has p = true ∨ p < n ∨ p ∈ is := by
 unfold Prot.has Prot.join
 simp only [Bool.or_eq_true, Nat.blt_eq, List.any_eq_true, List.mem_append]
 constructor
 ·rintro (h | ⟨x, h | h, e⟩)
  ·rcases Nat.lt_or_ge p pr.n with h1 | h1
   ·exact .inl (.inl h1)
   ·exact .inr (.inl (by omega))
  ·exact .inl (.inr ⟨x, h, e⟩)
  ·exact .inr (.inr (by rw [Nat.eq_of_beq_eq_true e]; exact h))
 ·rintro ((h | ⟨x, h, e⟩) | h | h)
  ·exact .inl (by omega)
  ·exact .inr ⟨x, .inl h, e⟩
  ·exact .inl (by omega)
  ·exact .inr ⟨p, .inr h, Nat.beq_refl p⟩
def Named (hp0 : List Blk) (is : List Nat) (s : St S.E) : Prop := ∀ q ∈ places hp0 is, (s.hp.map (·.b))[q.1]? = some q.2.b
theorem spineT_sound (hc : CallOK S P callT) {ops : Array Oper} {hp0 : List Blk} {tl : Nat} {is : List Nat} {Q : Array Value × St S.E → Prop} {Qx : Exit → Act → World → Prop} {i n : Nat} {l : Array Bool} {t : Array Value} {s : St S.E} {w : World}
  {k : Array Bool → Array Value → St S.E → Tree (Array Value × St S.E)} (hi : i ∈ Region.ready .any ops l) (h : (spineT P callT pr ops hp0 tl is i l t s k).sat Q) (hr : Rel S L w0 pr PN s w) (hN : Named hp0 is s) (hS1 : Holds w (pickB is hp0)) (hS : l.getD tl false = false → Named hp0 (List.range hp0.length) s ∧ Holds w hp0)
  (ih : ∀ l t s w, (k l t s).sat Q → Rel S L w0 pr PN s w → Named hp0 is s → Holds w (pickB is hp0) → (l.getD tl false = false → Named hp0 (List.range hp0.length) s ∧ Holds w hp0) → wpTill P ops Qx (Holds · hp0) (Holds · (pickB is hp0)) tl n l ⟨t, []⟩ w) :
  wpOp P ops Qx i (fun a' w' => (Holds w' (pickB is hp0) ∧ ((l.setIfInBounds i true).getD tl false = false → Holds w' hp0)) ∧ wpTill P ops Qx (Holds · hp0) (Holds · (pickB is hp0)) tl n (l.setIfInBounds i true) a' w') ⟨t, []⟩ w := by
 have hl : (l.setIfInBounds i true).getD tl false = false → l.getD tl false = false := by
  intro ht
  rcases Nat.decEq i tl with hne | heq
  ·rwa [getD_set_other _ hne] at ht
  ·subst heq
   have h0 := (mem_ready.1 hi).1
   rcases Nat.lt_or_ge i l.size with h' | h'
   ·simp [h'] at ht
   ·simp [Array.getElem?_eq_none h'] at h0
 unfold spineT at h
 unfold wpOp
 split at h
 ·exact h.elim
 ·rename_i o ho
  simp only [ho]
  obtain ⟨r0, ⟨hb, h⟩ | ⟨hb, h⟩⟩ := sat_guarded h
  ·simp only [hb, if_true]
   left
   have hmS1 : ∀ q ∈ places hp0 is, q.2.holds w := fun q hq => by
    obtain ⟨h1, h2⟩ := mem_places.1 hq
    exact hS1 q.2 (List.mem_filterMap.2 ⟨q.1, h1, h2⟩)
   have back1 : ∀ {w' : World}, (∀ q ∈ places hp0 is, q.2.holds w') → Holds w' (pickB is hp0) := by
    intro w' hh x hx
    obtain ⟨j, hj, hx⟩ := List.mem_filterMap.1 hx
    exact hh (j, x) (mem_places.2 ⟨hj, hx⟩)
   cases ht : (l.setIfInBounds i true).getD tl false
   ·simp only [ht] at h
    have hr2 : Rel S L w0 (pr.join hp0.length is) (PN ++ places hp0 (List.range hp0.length)) { s with orc := r0 } w := by
     refine (hr.orc r0).more (fun p hp => has_join.2 (.inl hp)) fun q hq => ?_
     rcases List.mem_append.1 hq with h1 | h1
     ·exact .inl h1
     ·obtain ⟨h2, h3⟩ := mem_places.1 h1
      exact .inr ⟨has_join.2 (.inr (.inl (List.mem_range.1 h2))), (hS (hl ht)).1 q h1, (hS (hl ht)).2 q.2 (List.mem_of_getElem? h3)⟩
    refine Oper.wp_mono ?_ (opT_sound hc (sat_bind _ _ _ h) hr2)
    rintro a' w' ⟨v, s', rfl, h1, h2⟩
    have h3 := h2.less hr fun q hq => List.mem_append_left _ hq
    have hS' : Holds w' hp0 := by
     intro x hx
     obtain ⟨j, hj⟩ := List.mem_iff_getElem?.1 hx
     exact h2.pnw (j, x) (List.mem_append_right _ (mem_places.2 ⟨List.mem_range.2 (List.getElem?_eq_some_iff.1 hj).1, hj⟩))
    have hN' : Named hp0 (List.range hp0.length) s' := fun q hq => (h2.pn q (List.mem_append_right _ hq)).2
    have hN1 : Named hp0 is s' := fun q hq => by
     obtain ⟨h4, h5⟩ := mem_places.1 hq
     exact hN' q (mem_places.2 ⟨List.mem_range.2 (List.getElem?_eq_some_iff.1 h5).1, h5⟩)
    exact ⟨⟨holds_pick hS' is, fun _ => hS'⟩, ih _ _ _ _ h1 h3 hN1 (holds_pick hS' is) fun _ => ⟨hN', hS'⟩⟩
   ·simp only [ht] at h
    have hr2 : Rel S L w0 (pr.join 0 is) (PN ++ places hp0 is) { s with orc := r0 } w := by
     refine (hr.orc r0).more (fun p hp => has_join.2 (.inl hp)) fun q hq => ?_
     rcases List.mem_append.1 hq with h1 | h1
     ·exact .inl h1
     ·obtain ⟨h2, h3⟩ := mem_places.1 h1
      exact .inr ⟨has_join.2 (.inr (.inr h2)), hN q h1, hmS1 q h1⟩
    refine Oper.wp_mono ?_ (opT_sound hc (sat_bind _ _ _ h) hr2)
    rintro a' w' ⟨v, s', rfl, h1, h2⟩
    have h3 := h2.less hr fun q hq => List.mem_append_left _ hq
    have hS1' : Holds w' (pickB is hp0) := back1 fun q hq => h2.pnw q (List.mem_append_right _ hq)
    exact ⟨⟨hS1', fun e => (by cases e)⟩, ih _ _ _ _ h1 h3 (fun q hq => (h2.pn q (List.mem_append_right _ hq)).2) hS1' fun e => (by rw [ht] at e; cases e)⟩
  ·simp only [hb, Bool.false_eq_true, if_false]
   rw [put_act]
   split at h
   ·exact h.elim
   ·rename_i ht
    exact ⟨⟨hS1, fun _ => (hS (hl ht)).2⟩, ih _ _ _ _ h (hr.orc r0) hN hS1 fun _ => hS (hl ht)⟩
theorem moveT_sound (hc : CallOK S P callT) {ops : Array Oper} (hsel : Region.noSelect ops = true) {hp0 : List Blk} {tl : Nat} {is : List Nat} {Q : Array Value × St S.E → Prop} {Qx : Exit → Act → World → Prop} (hQ : ∀ t s w, Q (t, s) → Rel S L w0 pr PN s w → Qx .normal ⟨t, []⟩ w) (hP : ∀ c a w, ¬ Qx (.panic c) a w) :
  ∀ (n : Nat) (l : Array Bool) (t : Array Value) (s : St S.E) (w : World), (moveT P callT pr ops hp0 tl is n l t s).sat Q → Rel S L w0 pr PN s w → Named hp0 is s → Holds w (pickB is hp0) → (l.getD tl false = false → Named hp0 (List.range hp0.length) s ∧ Holds w hp0) → wpTill P ops Qx (Holds · hp0) (Holds · (pickB is hp0)) tl n l ⟨t, []⟩ w := by
 intro n
 induction n with
 | zero =>
  intro l t s w h hr hN hS1 hS
  unfold moveT at h
  split at h
  ·rename_i he
   exact ⟨by simpa using he, hQ _ _ _ h hr⟩
  ·exact h.elim
 | succ n ih =>
  intro l t s w h hr hN hS1 hS
  unfold moveT at h
  split at h
  ·exact h.elim
  ·rename_i m orc horc
   split at h
   ·exact h.elim
   ·rename_i o ho
    split at h
    ·split at h
     ·exact h.elim
     ·rename_i hck
      simp only [Bool.and_eq_true, Bool.not_eq_true', bne_iff_ne, ne_eq] at hck
      obtain ⟨⟨⟨⟨h1, h2⟩, h3⟩, h4⟩, h5⟩ := hck
      have hw : ∀ x, ops[tl]? = some x → x.after.any (fun e => Region.binds .any e && e.on == m / 4) = true := fun x hx => by
       rw [hx] at h5
       exact h5
      have go : ∀ v s', YieldsIf P ops (Holds · hp0) o v ⟨t, []⟩ → Rel S L w0 pr PN s' w → s'.hp = s.hp → (moveT P callT pr ops hp0 tl is n (l.setIfInBounds (m / 4) true) (putT t o.dst v) s').sat Q → wpTill P ops Qx (Holds · hp0) (Holds · (pickB is hp0)) tl (n + 1) l ⟨t, []⟩ w := by
       intro v s' hy hr' he h'
       refine till_first ho hsel hP (Ne.symm h2) hw n l _ w (Region.free_spec ho h3) (by simpa using h4) h1 hy (hS h1).2 hS1 ?_
       rw [put_act]
       exact ih _ _ _ _ h' hr' (fun q hq => by rw [he]; exact hN q hq) hS1 fun _ => ⟨fun q hq => by rw [he]; exact (hS h1).1 q hq, (hS h1).2⟩
      obtain ⟨r0, ⟨hb, h⟩ | ⟨hb, h⟩⟩ := sat_guarded h
      ·split at h
       ·exact h.elim
       ·rename_i v r ps cs hf
        obtain ⟨ha, hh⟩ := sat_sames h
        obtain ⟨hh1, hh2⟩ := sat_asked hh
        exact go v _ (.inl ⟨hb, fun w' hw' => fltR_sound hf ha hh1 w' hw'⟩) (hr.orc r) rfl hh2
      ·exact go undef _ (.inr ⟨hb, rfl⟩) (hr.orc r0) rfl h
    ·split at h
     ·exact h.elim
     ·rename_i hck
      simp only [Bool.and_eq_true, bne_iff_ne, ne_eq] at hck
      obtain ⟨⟨h2, h3⟩, h4⟩ := hck
      have go : ∀ v s', YieldsIf P ops (Holds · (pickB is hp0)) o v ⟨t, []⟩ → Rel S L w0 pr PN s' w → s'.hp = s.hp → (moveT P callT pr ops hp0 tl is n (l.setIfInBounds (m / 4) true) (putT t o.dst v) s').sat Q → wpTill P ops Qx (Holds · hp0) (Holds · (pickB is hp0)) tl (n + 1) l ⟨t, []⟩ w := by
       intro v s' hy hr' he h'
       refine till_first' ho hsel hP (Ne.symm h2) n l _ w (Region.free_spec ho h3) (by simpa using h4) hy (fun e => (hS e).2) hS1 ?_
       rw [put_act]
       exact ih _ _ _ _ h' hr' (fun q hq => by rw [he]; exact hN q hq) hS1 fun e => by
        have h6 := hS (by rwa [getD_set_other _ h2] at e)
        exact ⟨fun q hq => by rw [he]; exact h6.1 q hq, h6.2⟩
      obtain ⟨r0, ⟨hb, h⟩ | ⟨hb, h⟩⟩ := sat_guarded h
      ·split at h
       ·exact h.elim
       ·rename_i v r ps cs hf
        obtain ⟨ha, hh⟩ := sat_sames h
        obtain ⟨hh1, hh2⟩ := sat_asked hh
        exact go v _ (.inl ⟨hb, fun w' hw' => fltR_sound hf ha hh1 w' hw'⟩) (hr.orc r) rfl hh2
      ·exact go undef _ (.inr ⟨hb, rfl⟩) (hr.orc r0) rfl h
    ·split at h
     ·rename_i hready
      have hrd : Region.ready .any ops l = [m / 4] := by simpa using hready
      refine ⟨fun h0 => (by rw [hrd] at h0; cases h0), fun i hi => ?_⟩
      have hi' := hi
      rw [hrd] at hi
      simp at hi
      subst hi
      exact spineT_sound hc hi' h (hr.orc orc) hN hS1 hS fun l t s w => ih l t s w
     ·exact h.elim
    ·split at h
     ·rename_i i j k orc' hready
      refine ⟨fun h0 => (by rw [hready] at h0; cases h0), fun x hx => ?_⟩
      have hx' := hx
      rw [hready] at hx
      simp at hx
      rcases hx with rfl | rfl
      ·exact spineT_sound hc hx' h.1 (hr.orc _) hN hS1 hS fun l t s w => ih l t s w
      ·exact spineT_sound hc hx' h.2 (hr.orc _) hN hS1 hS fun l t s w => ih l t s w
     ·exact h.elim
theorem Rel.drew {s : St S.E} {w : World} (h : Rel S L w0 pr PN s w) : Rel S L w0 pr PN s { w with drawn := w.drawn + 1 } := by
 have ho : Only [] w { w with drawn := w.drawn + 1 } := ⟨rfl, rfl, rfl, Nat.le_refl _, fun _ _ _ => rfl⟩
 refine ⟨⟨h.has.nd, fun x hx => ?_⟩, h.side.imp fun F hf => ⟨S.stable _ _ _ _ _ hf.inv ho (by simp), hf.apart, hf.foot⟩, h.only.trans ⟨rfl, rfl, rfl, Nat.le_refl _, fun _ _ _ => rfl⟩, h.own, h.pn, fun q hq => ?_⟩
 ·obtain ⟨rest, hr, he⟩ := h.has.each x hx
  exact ⟨rest, hr, he⟩
 ·obtain ⟨rest, hr, he⟩ := h.pnw q hq
  exact ⟨rest, hr, he⟩
theorem codeT_sound (hm : P.follows .mixedOrders = true) (hc : CallOK S P callT) (rounds : Nat) (c : Code) :
  ∀ (t : Array Value) (s : St S.E) (w : World) (Q : Ex × Array Value × St S.E → Prop), (codeT P callT pr rounds c t s).sat Q → Rel S L w0 pr PN s w → c.wp P (post S L w0 pr PN Q) ⟨t, []⟩ w := by
 induction c with
 | skip => exact fun t s w Q h hr => wp_skip ⟨rfl, s, h, hr⟩
 | region id ops draw =>
  intro t s w Q h hr
  cases draw with
  | false =>
   exact wp_region (opsT_sound hc (fun t s w h1 h2 => ⟨rfl, s, h1, h2⟩) _ _ _ _ (sat_bind _ _ _ h) hr)
  | true =>
   unfold codeT at h
   split at h
   ·rename_i tl k orc horc hsel
    have hd := hr.drew
    have hNm : ∀ is', Named s.hp is' ({ s with orc := orc.drop k } : St S.E) := fun is' q hq => by
     obtain ⟨_, h5⟩ := mem_places.1 hq
     simp only [List.getElem?_map, h5, Option.map_some]
    refine wp_region_any hm (wpAny_of_till (S0 := (Holds · s.hp)) (S1 := (Holds · (pickB (orc.take k) s.hp))) (tl := tl) _ _ _ _ ?_)
    exact moveT_sound (PN := PN) hc hsel (fun t s' w h1 h2 => ⟨rfl, s', h1, h2⟩) (fun c a w h => h) _ _ _ _ _ (sat_bind _ _ _ h) (hd.orc _) (hNm _) (holds_pick hd.has.each _) fun _ => ⟨hNm _, hd.has.each⟩
   ·exact h.elim
 | seq a b iha ihb =>
  intro t s w Q h hr
  refine wp_seq (wp_mono (iha t s w _ (sat_bind _ _ _ h) hr) ?_)
  intro e a' w' hp
  cases e with
  | normal =>
   obtain ⟨h1, s', h2, h3⟩ := hp
   have := ihb a'.tmps s' w' Q h2 h3
   obtain ⟨tm, df⟩ := a'
   cases h1
   exact this
  | ret =>
   obtain ⟨h1, s', h2, h3⟩ := hp
   exact ⟨h1, s', h2, h3⟩
  | exit id =>
   obtain ⟨h1, s', h2, h3⟩ := hp
   exact ⟨h1, s', h2, h3⟩
  | goto l => exact hp
  | panic c => exact hp
  | outgrown => exact hp
 | cond c a b iha ihb =>
  intro t s w Q h hr
  unfold codeT at h
  split at h
  ·rename_i x hx
   obtain ⟨r, h⟩ := sat_tested h
   refine wp_cond hx ?_
   cases x <;> simp only [] at h <;> rw [fixO_same hx] at h
   ·exact ihb _ _ _ _ h (hr.orc r)
   ·exact iha _ _ _ _ h (hr.orc r)
  ·exact h.elim
 | block id b ih =>
  intro t s w Q h hr
  refine wp_block (wp_mono (ih t s w _ (sat_bind _ _ _ h) hr) ?_)
  intro e a' w' hp
  cases e with
  | normal => exact hp
  | ret => exact hp
  | exit id' =>
   obtain ⟨h1, s', h2, h3⟩ := hp
   simp only [Exit.inBlock]
   cases hid : id' == id
   ·simp only [hid] at h2
    have : ¬ id' = id := by simpa using hid
    rw [if_neg this]
    exact ⟨h1, s', h2, h3⟩
   ·simp only [hid] at h2
    have : id' = id := by simpa using hid
    rw [if_pos this]
    exact ⟨h1, s', h2, h3⟩
  | goto l => exact hp
  | panic c => exact hp
  | outgrown => exact hp
 | loop b ih =>
  intro t s w Q h hr
  refine wp_loop_rounds rounds ?_
  have key : ∀ n t s w, (loopT (codeT P callT pr rounds b) n t s).sat Q → Rel S L w0 pr PN s w → Code.rounds P b (post S L w0 pr PN Q) n ⟨t, []⟩ w := by
   intro n
   induction n with
   | zero => exact fun t s w h _ => h.elim
   | succ n ihn =>
    intro t s w h hr
    rw [rounds_succ]
    refine wp_mono (ih t s w _ (sat_bind _ _ _ h) hr) ?_
    intro e a' w' hp
    cases e with
    | normal =>
     obtain ⟨h1, s', h2, h3⟩ := hp
     have := ihn a'.tmps s' w' h2 h3
     obtain ⟨tm, df⟩ := a'
     cases h1
     exact this
    | ret => exact hp
    | exit id => exact hp
    | goto l => exact hp
    | panic c => exact hp
    | outgrown => exact hp
  exact key rounds t s w h hr
 | exit id => exact fun t s w Q h hr => wp_exit ⟨rfl, s, h, hr⟩
 | scope b ih =>
  intro t s w Q h hr
  refine wp_scope_straight (wp_mono (ih t s w _ h hr) ?_)
  intro e a' w' hp
  cases e <;> exact hp
 | ret => exact fun t s w Q h hr => wp_ret ⟨rfl, s, h, hr⟩
 | _ => exact fun t s w Q h hr => h.elim
structure Ext (S : Side) (P : Program) where
 f : FuncId → Option (Array Value → St S.E → Tree (Value × St S.E))
 ok : ∀ g x, f g = some x → ∀ L w0 pr PN args s w Q, (x args s).sat Q → Rel S L w0 pr PN s w → Calls P g args w fun e w' => ∃ v s', e = .returned v ∧ Q (v, s') ∧ Rel S L w0 pr PN s' w'
theorem bodyT_sound (hm : P.follows .mixedOrders = true) (X : Ext S P) (rounds : Nat) : ∀ n, CallOK S P (bodyT P X.f rounds n) := by
 intro n
 induction n with
 | zero => exact fun L w0 pr PN f args s w Q h _ => h.elim
 | succ n ih =>
  intro L w0 pr PN f args s w Q h hr
  unfold bodyT at h
  split at h
  ·exact h.elim
  ·rename_i fn hf
   split at h
   ·exact h.elim
   ·rename_i c hb
    have hc : CallOK S P (pickT X.f (bodyT P X.f rounds n)) := by
     intro L w0 pr PN g args s w Q h hr
     unfold pickT at h
     split at h
     ·rename_i x hx
      exact X.ok g x hx L w0 pr PN args s w Q h hr
     ·exact ih L w0 pr PN g args s w Q h hr
    have h' := sat_bind _ _ _ h
    have hcode := codeT_sound hm hc rounds c _ s w _ h' hr
    refine calls_of_wp hf hb (wp_mono hcode ?_)
    intro e a' w' hp
    have fin : ∀ s', (match semR P s'.hp (results fn a'.tmps) s'.orc [] [] with
      | some (v, r, ps, cs) => sames ps (asked cs (.done (v, { s' with orc := r })))
      | none => .fail : Tree (Value × St S.E)).sat Q → Rel S L w0 pr PN s' w' → ∃ v, (results fn a'.tmps).run P w' = .ok v w' ∧ ∃ v' s', Ending.returned v = .returned v' ∧ Q (v', s') ∧ Rel S L w0 pr PN s' w' := by
     intro s' h2 h3
     split at h2
     ·rename_i v r ps cs hres
      obtain ⟨h4, h5⟩ := sat_sames h2
      obtain ⟨h5, h6⟩ := sat_asked h5
      exact ⟨v, (semR_sound P _ _ _ _ _ _ _ _ _ hres h4 h5).1 w' h3.has.each, v, _, rfl, h6, h3.orc r⟩
     ·exact h2.elim
    cases e with
    | normal =>
     obtain ⟨h1, s', h2, h3⟩ := hp
     exact ⟨h1, fin s' h2 h3⟩
    | ret =>
     obtain ⟨h1, s', h2, h3⟩ := hp
     exact ⟨h1, fin s' h2 h3⟩
    | exit id =>
     obtain ⟨h1, s', h2, h3⟩ := hp
     exact h2.elim
    | _ => exact hp.elim
def check {E : Type} (is : List Nat) (X : Option (Out (Value × St E))) : Option (Value × List (Option Blk) × E × List Prop × List Nat) :=
 match X with
 | some o => some (o.b.1, is.map (o.b.2.hp[·]?), o.b.2.e, o.cs, o.l)
 | none => none
def rights {β : Type} : Option (Out β) → List Nat
 | some o => o.r
 | none => []
def Rel0 (S : Side) (L : List Nat) (w0 : World) (s : St S.E) (w : World) : Prop := Rel S L w0 ⟨0, []⟩ [] s w
theorem has_pick {w : World} {hp bl : List Blk} (h : Has w hp) {is : List Nat} (hn : is.Nodup) (hb : is.map (hp[·]?) = bl.map some) : Has w bl := by
 have hlen : is.length = bl.length := by simpa using congrArg List.length hb
 have at_ : ∀ (k : Nat) (x : Blk), bl[k]? = some x → ∃ i, is[k]? = some i ∧ hp[i]? = some x := by
  intro k x hk
  have h1 := congrArg (·[k]?) hb
  simp only [List.getElem?_map, hk, Option.map_some] at h1
  cases hi : is[k]? with
  | none => rw [hi] at h1; cases h1
  | some i =>
   rw [hi] at h1
   simp at h1
   exact ⟨i, rfl, h1⟩
 refine ⟨?_, fun x hx => ?_⟩
 ·refine List.pairwise_iff_getElem.2 fun i j hi hj hij he => ?_
  simp only [List.length_map] at hi hj
  simp only [List.getElem_map] at he
  obtain ⟨a, ha, hpa⟩ := at_ i _ (List.getElem?_eq_getElem hi)
  obtain ⟨b, hb', hpb⟩ := at_ j _ (List.getElem?_eq_getElem hj)
  have e := nodup_at h.nd hpa hpb he
  subst e
  obtain ⟨h1, h2⟩ := List.getElem?_eq_some_iff.1 ha
  obtain ⟨h3, h4⟩ := List.getElem?_eq_some_iff.1 hb'
  have := (List.getElem_inj (xs := is) (h₀ := h1) (h₁ := h3) hn).1 (h2.trans h4.symm)
  omega
 ·obtain ⟨k, hk⟩ := List.mem_iff_getElem?.1 hx
  obtain ⟨i, _, hi⟩ := at_ k x hk
  exact h.each x (List.mem_of_getElem? hi)
theorem rel_pick {s : St S.E} {w : World} {bl : List Blk} (h : Rel0 S L w0 s w) {is : List Nat} (hn : is.Nodup) (hb : is.map (s.hp[·]?) = bl.map some) : Rel0 S L w0 ⟨bl, s.e, []⟩ w := by
 have hm : ∀ x ∈ bl, x ∈ s.hp := by
  intro x hx
  have : some x ∈ is.map (s.hp[·]?) := by rw [hb]; exact List.mem_map.2 ⟨x, hx, rfl⟩
  obtain ⟨i, _, hi⟩ := List.mem_map.1 this
  exact List.mem_of_getElem? hi
 exact ⟨has_pick h.has hn hb, h.side.imp fun F hf => ⟨hf.inv, fun x hx => hf.apart x (hm x hx), hf.foot⟩, h.only, fun x hx => h.own x (hm x hx), by simp, by simp⟩
theorem calls_of_check {X : Ext S P} (hm : P.follows .mixedOrders = true) {rounds n : Nat} {f : FuncId} {args : Array Value} {s : St S.E} {w : World} (is : List Bool → List Nat) (v : List Bool → (Nat → Nat) → Value) (bl : List Bool → (Nat → Nat) → List Blk) (e : List Bool → (Nat → Nat) → S.E) (cs : List Bool → (Nat → Nat) → List Prop)
  (h : ∀ br gs, check (is br) ((bodyT P X.f rounds n ⟨0, []⟩ f args s).close gs br 0) = some (v br gs, (bl br gs).map some, e br gs, cs br gs, rights ((bodyT P X.f rounds n ⟨0, []⟩ f args s).close gs br 0)))
  (hc : ∀ br gs, all (cs br gs)) (hn : ∀ br, (is br).Nodup) (hr : Rel0 S L w0 s w) : Calls P f args w fun en w' => ∃ br gs, en = .returned (v br gs) ∧ Rel0 S L w0 ⟨bl br gs, e br gs, []⟩ w' := by
 refine (bodyT_sound hm X rounds n L w0 ⟨0, []⟩ [] f args s w _ (sat_of_out _ (fun x => ∃ br gs, x.1 = v br gs ∧ (is br).map (x.2.hp[·]?) = (bl br gs).map some ∧ x.2.e = e br gs) 0 (fun _ => 0) fun br gs _ => ?_) hr).mono ?_
 ·have h1 := h br gs
  cases hx : (bodyT P X.f rounds n ⟨0, []⟩ f args s).close gs br 0 with
  | none => rw [hx] at h1; cases h1
  | some o =>
   rw [hx] at h1
   simp only [check, rights, Option.some.injEq, Prod.mk.injEq] at h1
   obtain ⟨h1, h2, h3, h4, h5⟩ := h1
   exact ⟨o, rfl, by rw [h4]; exact hc br gs, h5, br, gs, h1, h2, h3⟩
 ·rintro en w' ⟨v', s', rfl, ⟨br, gs, h1, h2, h3⟩, hr'⟩
  refine ⟨br, gs, congrArg Ending.returned h1, ?_⟩
  rw [← h3]
  exact rel_pick hr' (hn br) h2
end Go.Proofs.YtfinmiakbpmjiaaGreat.Ay
