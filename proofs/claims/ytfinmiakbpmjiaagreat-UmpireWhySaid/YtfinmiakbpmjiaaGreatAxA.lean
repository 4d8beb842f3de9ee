/-
  A verified evaluator of the code over known blocks.
-/
import Derived.Test.YtfinmiakbpmjiaaGreatKit
import Derived.Test.YtfinmiakbpmjiaaGreatChA
import Derived.OrdersHeld
import Derived.Scope
import Derived.LoopN
import Derived.Test.YtfinmiakbpmjiaaGreatProg
import Derived.KernelRfl
import Derived.Test.YtfinmiakbpmjiaaGreatStA
import Derived.Test.YtfinmiakbpmjiaaGreatTaA
import Derived.Shelf.Slices.Clone
set_option linter.unusedSimpArgs false
set_option linter.unusedVariables false
set_option maxRecDepth 100000
namespace Go.Proofs.YtfinmiakbpmjiaaGreat.Ax
open Go
inductive Cells where
 | vals (a : Array Value)
 | ints (l : List Int)
 | win (pre a post : Array Value)
def Cells.arr : Cells → Array Value
 | .vals a => a
 | .ints l => (l.map (Value.int .i64)).toArray
 | .win pre a post => pre ++ a ++ post
structure Blk where
 b : Nat
 cs : Cells
 t : TypeId
def Cells.ends : Cells → Array Value → Prop
 | .win _ _ _, r => r = #[]
 | _, _ => True
def Blk.holds (x : Blk) (w : World) : Prop := ∃ rest : Array Value, w.heap[x.b]? = some (.cells (x.cs.arr ++ rest) x.t (0, 0)) ∧ x.cs.ends rest
inductive Tree (β : Type) where
 | done (b : β)
 | fail
 | fresh (k : Nat → Tree β)
 | ask (c : Prop) (t : Tree β)
 | same (x y : Nat) (t : Tree β)
 | both (a b : Tree β)
def Tree.sat {β : Type} : Tree β → (β → Prop) → Prop
 | .done b, Q => Q b
 | .fail, _ => False
 | .fresh k, Q => ∀ g, (k g).sat Q
 | .ask c t, Q => c ∧ t.sat Q
 | .same x y t, Q => x = y ∧ t.sat Q
 | .both a b, Q => a.sat Q ∧ b.sat Q
def Tree.bind {β γ : Type} : Tree β → (β → Tree γ) → Tree γ
 | .done b, f => f b
 | .fail, _ => .fail
 | .fresh k, f => .fresh fun g => (k g).bind f
 | .ask c t, f => .ask c (t.bind f)
 | .same x y t, f => .same x y (t.bind f)
 | .both a b, f => .both (a.bind f) (b.bind f)
theorem sat_bind {β γ : Type} (t : Tree β) (f : β → Tree γ) (Q : γ → Prop) : (t.bind f).sat Q → t.sat fun b => (f b).sat Q := by
 induction t with
 | done b => exact id
 | fail => exact id
 | fresh k ih => exact fun h g => ih g (h g)
 | ask c t ih => exact fun h => ⟨h.1, ih h.2⟩
 | same x y t ih => exact fun h => ⟨h.1, ih h.2⟩
 | both a b iha ihb => exact fun h => ⟨iha h.1, ihb h.2⟩
def all : List Prop → Prop
 | [] => True
 | c :: cs => c ∧ all cs
def sames {β : Type} : List (Nat × Nat) → Tree β → Tree β
 | [], t => t
 | (x, y) :: ps, t => .same x y (sames ps t)
def agree : List (Nat × Nat) → Prop
 | [] => True
 | (x, y) :: ps => x = y ∧ agree ps
theorem sat_sames {β : Type} {ps : List (Nat × Nat)} {t : Tree β} {Q : β → Prop} (h : (sames ps t).sat Q) : agree ps ∧ t.sat Q := by
 induction ps with
 | nil => exact ⟨trivial, h⟩
 | cons p ps ih => exact ⟨⟨h.1, (ih h.2).1⟩, (ih h.2).2⟩
structure Out (β : Type) where
 b : β
 cs : List Prop
 l : List Nat
 r : List Nat
def Tree.close {β : Type} (gs : Nat → Nat) : List Bool → Nat → Tree β → Option (Out β)
 | _, _, .done b => some ⟨b, [], [], []⟩
 | _, _, .fail => none
 | br, n, .fresh k => (k (gs n)).close gs br (n + 1)
 | br, n, .ask c t => match t.close gs br n with
  | some o => some { o with cs := c :: o.cs }
  | none => none
 | br, n, .same x y t => match t.close gs br n with
  | some o => some { o with l := x :: o.l, r := y :: o.r }
  | none => none
 | true :: br, n, .both a _ => a.close gs br n
 | false :: br, n, .both _ b => b.close gs br n
 | [], n, .both a _ => a.close gs [] n
theorem sat_of_out {β : Type} (t : Tree β) (Q : β → Prop) : ∀ (n : Nat) (g0 : Nat → Nat), (∀ br gs, (∀ i, i < n → gs i = g0 i) → ∃ o, t.close gs br n = some o ∧ all o.cs ∧ o.l = o.r ∧ Q o.b) → t.sat Q := by
 induction t with
 | done b =>
  intro n g0 h
  obtain ⟨o, h1, _, _, h3⟩ := h [] g0 fun _ _ => rfl
  cases h1
  exact h3
 | fail =>
  intro n g0 h
  obtain ⟨o, h1, _⟩ := h [] g0 fun _ _ => rfl
  cases h1
 | fresh k ih =>
  intro n g0 h g
  refine ih g (n + 1) (fun i => if i = n then g else g0 i) fun br gs hg => ?_
  have e : gs n = g := by simpa using hg n (by omega)
  obtain ⟨o, h1, h2⟩ := h br gs fun i hi => by
   have := hg i (by omega)
   rwa [if_neg (by omega)] at this
  refine ⟨o, ?_, h2⟩
  simp only [Tree.close, e] at h1
  exact h1
 | ask c t ih =>
  intro n g0 h
  refine ⟨?_, ih n g0 fun br gs hg => ?_⟩
  ·obtain ⟨o, h1, h2, _⟩ := h [] g0 fun _ _ => rfl
   simp only [Tree.close] at h1
   split at h1
   ·cases h1
    exact h2.1
   ·cases h1
  ·obtain ⟨o, h1, h2, h3, h5⟩ := h br gs hg
   simp only [Tree.close] at h1
   split at h1
   ·rename_i o' ho
    cases h1
    exact ⟨o', ho, h2.2, h3, h5⟩
   ·cases h1
 | same x y t ih =>
  intro n g0 h
  refine ⟨?_, ih n g0 fun br gs hg => ?_⟩
  ·obtain ⟨o, h1, h2, h3, _⟩ := h [] g0 fun _ _ => rfl
   simp only [Tree.close] at h1
   split at h1
   ·cases h1
    exact (List.cons.inj h3).1
   ·cases h1
  ·obtain ⟨o, h1, h2, h3, h5⟩ := h br gs hg
   simp only [Tree.close] at h1
   split at h1
   ·rename_i o' ho
    cases h1
    exact ⟨o', ho, h2, (List.cons.inj h3).2, h5⟩
   ·cases h1
 | both a b iha ihb =>
  intro n g0 h
  refine ⟨iha n g0 fun br gs hg => ?_, ihb n g0 fun br gs hg => ?_⟩
  ·obtain ⟨o, h1, h2⟩ := h (true :: br) gs hg
   simp only [Tree.close] at h1
   exact ⟨o, h1, h2⟩
  ·obtain ⟨o, h1, h2⟩ := h (false :: br) gs hg
   simp only [Tree.close] at h1
   exact ⟨o, h1, h2⟩
structure Has (w : World) (hp : List Blk) : Prop where
 nd : (hp.map (·.b)).Nodup
 each : ∀ x ∈ hp, x.holds w
structure St (E : Type) where
 hp : List Blk
 e : E
 orc : List Nat
def St.pop {E : Type} (s : St E) : Option (Nat × Blk × St E) :=
 match s.orc with
 | p :: o => match s.hp[p]? with
  | some x => some (p, x, { s with orc := o })
  | none => none
 | [] => none
def tested {E β : Type} (x : Bool) (s : St E) (k : Bool → St E → Tree β) : Tree β :=
 match s.orc with
 | 0 :: o => .ask (x = false) (k false { s with orc := o })
 | 1 :: o => .ask (x = true) (k true { s with orc := o })
 | 2 :: o => .same x.toNat 0 (k false { s with orc := o })
 | 3 :: o => .same x.toNat 1 (k true { s with orc := o })
 | _ => .fail
theorem sat_tested {E β : Type} {x : Bool} {s : St E} {k : Bool → St E → Tree β} {Q : β → Prop} (h : (tested x s k).sat Q) : ∃ o, (k x { s with orc := o }).sat Q := by
 unfold tested at h
 split at h
 ·obtain ⟨rfl, h⟩ := h; exact ⟨_, h⟩
 ·obtain ⟨rfl, h⟩ := h; exact ⟨_, h⟩
 ·obtain ⟨e, h⟩ := h
  have : x = false := by cases x <;> simp_all
  subst this
  exact ⟨_, h⟩
 ·obtain ⟨e, h⟩ := h
  have : x = true := by cases x <;> simp_all
  subst this
  exact ⟨_, h⟩
 ·exact h.elim
def one : Value → Bool
 | .agg _ => false
 | .tuple _ => false
 | _ => true
structure Prot where
 n : Nat
 l : List Nat
def Prot.has (r : Prot) (p : Nat) : Bool := Nat.blt p r.n || r.l.any (Nat.beq p)
def semT {E α : Type} (P : Program) (pr : Prot) : Sem α → St E → Tree (α × St E)
 | .pure a, s => .done (a, s)
 | .program k, s => semT P pr (k P) s
 | .mark _ k, s => semT P pr k s
 | .load _ a k, s => match s.pop with
  | some (_, x, s') => match a.spot with
   | none => .same a.block x.b (match x.cs with
    | .vals c => match c[a.off]? with
     | some v => semT P pr (k v) s'
     | none => .fail
    | .ints l => .ask (a.off < l.length) (semT P pr (k (.int .i64 (l.getD a.off 0))) s')
    | .win pre c _ => match s'.orc with
     | i :: o => .ask (a.off = pre.size + i) (match c[i]? with
      | some v => semT P pr (k v) { s' with orc := o }
      | none => .fail)
     | [] => .fail)
   | some _ => .fail
  | none => .fail
 | .store _ a v k, s => match one v, s.pop with
  | true, some (p, x, s') => match a.spot, pr.has p with
   | none, false => .same a.block x.b (match x.cs with
    | .vals c => match c[a.off]? with
     | some _ => semT P pr k { s' with hp := s'.hp.set p { x with cs := .vals (c.setIfInBounds a.off v) } }
     | none => .fail
    | .ints _ => .fail
    | .win pre c post => match s'.orc with
     | i :: o => .ask (a.off = pre.size + i) (match c[i]? with
      | some _ => semT P pr k { s' with hp := s'.hp.set p { x with cs := .win pre (c.setIfInBounds i v) post }, orc := o }
      | none => .fail)
     | [] => .fail)
   | _, _ => .fail
  | _, _ => .fail
 | .new (.cells cs t (0, 0)) k, s => .fresh fun g => semT P pr (k g) { s with hp := s.hp ++ [⟨g, .vals cs, t⟩] }
 | .new _ _, _ => .fail
 | .shape _ _, _ => .fail
 | .freeze _ _ _, _ => .fail
 | .frozen a k, s => match s.pop with
  | some (_, x, s') => .same a.block x.b (semT P pr (k false) s')
  | none => .fail
 | .getObj _ _, _ => .fail
 | .setObj _ _ _, _ => .fail
 | .choose _ _, _ => .fail
 | .sys _ _, _ => .fail
 | .halt _, _ => .fail
def semR {α : Type} (P : Program) (hp : List Blk) : Sem α → List Nat → List (Nat × Nat) → List Prop → Option (α × List Nat × List (Nat × Nat) × List Prop)
 | .pure a, o, ps, c => some (a, o, ps, c)
 | .program k, o, ps, c => semR P hp (k P) o ps c
 | .mark _ k, o, ps, c => semR P hp k o ps c
 | .load _ a k, o, ps, cs => match o with
  | p :: o => match hp[p]?, a.spot with
   | some x, none => match x.cs with
    | .vals c => match c[a.off]? with
     | some v => semR P hp (k v) o ((a.block, x.b) :: ps) cs
     | none => none
    | .ints l => semR P hp (k (.int .i64 (l.getD a.off 0))) o ((a.block, x.b) :: ps) ((a.off < l.length) :: cs)
    | .win pre c _ => match o with
     | i :: o => match c[i]? with
      | some v => semR P hp (k v) o ((a.block, x.b) :: ps) ((a.off = pre.size + i) :: cs)
      | none => none
     | [] => none
   | _, _ => none
  | [] => none
 | _, _, _, _ => none
end Go.Proofs.YtfinmiakbpmjiaaGreat.Ax
namespace Go.Proofs.YtfinmiakbpmjiaaGreat.Ax
open Go Go.RowKit Go.Proofs.YtfinmiakbpmjiaaGreat
theorem nodup_at {l : List Blk} (h : (l.map (·.b)).Nodup) {i j : Nat} {x y : Blk} (hi : l[i]? = some x) (hj : l[j]? = some y) (e : x.b = y.b) : i = j := by
 obtain ⟨hi1, hi2⟩ := List.getElem?_eq_some_iff.1 hi
 obtain ⟨hj1, hj2⟩ := List.getElem?_eq_some_iff.1 hj
 have := (List.getElem_inj (xs := l.map (·.b)) (h₀ := by simpa using hi1) (h₁ := by simpa using hj1) h).1 (by simp [hi2, hj2, e])
 exact this
theorem holds_far {x : Blk} {w : World} (h : x.holds w) {a : Addr} (hn : x.b ≠ a.block) (v : Value) : x.holds (w.setCell a v) := by
 obtain ⟨rest, hr, he⟩ := h
 exact ⟨rest, blk_far hr hn v, he⟩
theorem holds_lt {x : Blk} {w : World} (h : x.holds w) : x.b < w.heap.size := by
 obtain ⟨rest, hr, _⟩ := h
 exact blk_lt hr
theorem holds_only {x : Blk} {w w' : World} {L : List Nat} (h : x.holds w) (k : Only L w w') (hx : x.b ∉ L) : x.holds w' := by
 obtain ⟨rest, hr, he⟩ := h
 exact ⟨rest, (k.block _ (blk_lt hr) hx).trans hr, he⟩
theorem map_set (l : List Blk) (p : Nat) (x y : Blk) (h : l[p]? = some x) (e : y.b = x.b) : (l.set p y).map (·.b) = l.map (·.b) := by
 apply List.ext_getElem?
 intro i
 simp only [List.getElem?_map, List.getElem?_set]
 by_cases hi : p = i
 ·subst hi
  obtain ⟨h1, h2⟩ := List.getElem?_eq_some_iff.1 h
  simp [h, h1, h2, e]
 ·simp [hi]
theorem win_set (pre c post : Array Value) (i : Nat) (v : Value) (h : i < c.size) : pre ++ c.setIfInBounds i v ++ post = (pre ++ c ++ post).setIfInBounds (pre.size + i) v := by
 rw [Array.setIfInBounds_append_left (by simp; omega), Array.setIfInBounds_append_right (by omega)]
 simp
theorem win_at (pre c post : Array Value) (i : Nat) (v : Value) (h : c[i]? = some v) : (pre ++ c ++ post)[pre.size + i]? = some v := by
 obtain ⟨h1, h2⟩ := Array.getElem?_eq_some_iff.1 h
 rw [Array.getElem?_append_left (by simp; omega), Array.getElem?_append_right (by omega)]
 simp [h]
theorem Has.set {w : World} {hp : List Blk} (h : Has w hp) {p off : Nat} {x : Blk} {u : Value} {cs' : Cells} (hx : hp[p]? = some x) (ho : x.cs.arr[off]? = some u) (v : Value) (hcs : cs'.arr = x.cs.arr.setIfInBounds off v) (hend : ∀ r, x.cs.ends r → cs'.ends r) :
  Has (w.setCell ⟨x.b, off, none⟩ v) (hp.set p { x with cs := cs' }) := by
 refine ⟨?_, fun z hz => ?_⟩
 ·have e := map_set hp p x { x with cs := cs' } hx rfl
  rw [e]
  exact h.nd
 ·obtain ⟨i, hi⟩ := List.mem_iff_getElem?.1 hz
  rw [List.getElem?_set] at hi
  by_cases hp' : p = i
  ·subst hp'
   obtain ⟨h1, _⟩ := List.getElem?_eq_some_iff.1 hx
   simp [h1] at hi
   subst hi
   obtain ⟨rest, hr, he⟩ := h.each x (List.mem_of_getElem? hx)
   refine ⟨rest, ?_, hend _ he⟩
   have := blk_put hr off v rfl
   rw [this]
   obtain ⟨hlt, _⟩ := Array.getElem?_eq_some_iff.1 ho
   simp only [hcs]
   congr 2
   rw [Array.setIfInBounds_append_left hlt]
  ·simp [hp'] at hi
   have hne : z.b ≠ x.b := fun e => hp' (nodup_at h.nd hx hi e.symm)
   exact holds_far (h.each z (List.mem_of_getElem? hi)) hne v
theorem Has.new {w : World} {hp : List Blk} (h : Has w hp) (cs : Array Value) (t : TypeId) : Has (w.alloc (.cells cs t)) (hp ++ [⟨w.heap.size, .vals cs, t⟩]) := by
 refine ⟨?_, fun z hz => ?_⟩
 ·rw [List.map_append, List.nodup_append]
  refine ⟨h.nd, by simp, fun a ha b hb => ?_⟩
  simp at hb
  subst hb
  obtain ⟨y, hy, rfl⟩ := List.mem_map.1 ha
  have := holds_lt (h.each y hy)
  omega
 ·rcases List.mem_append.1 hz with h1 | h1
  ·obtain ⟨rest, hr, he⟩ := h.each z h1
   exact ⟨rest, blk_alloc hr _, he⟩
  ·simp at h1
   subst h1
   exact ⟨#[], by rw [Array.append_empty]; exact blk_new w _, trivial⟩
structure Side where
 E : Type
 I : E → World → List Nat → Prop
 stable : ∀ e w w' L F, I e w F → Only L w w' → (∀ x ∈ F, x ∉ L) → I e w' F
variable {S : Side}
structure Foot (S : Side) (L : List Nat) (w0 : World) (s : St S.E) (w : World) (F : List Nat) : Prop where
 inv : S.I s.e w F
 apart : ∀ x ∈ s.hp, x.b ∉ F
 foot : ∀ b ∈ F, b < w.heap.size ∧ (b ∈ L ∨ w0.heap.size ≤ b)
structure Rel (S : Side) (L : List Nat) (w0 : World) (pr : Prot) (PN : List (Nat × Blk)) (NM : List Nat) (s : St S.E) (w : World) : Prop where
 has : Has w s.hp
 side : ∃ F, Foot S L w0 s w F
 only : Only L w0 w
 own : ∀ x ∈ s.hp, x.b ∈ L ∨ w0.heap.size ≤ x.b
 pre : NM <+: s.hp.map (·.b)
 pn : ∀ q ∈ PN, pr.has q.1 = true ∧ NM[q.1]? = some q.2.b
 pnw : ∀ q ∈ PN, q.2.holds w
section
variable {L : List Nat} {w0 w w' : World} {pr : Prot} {PN : List (Nat × Blk)} {NM : List Nat} {s : St S.E}
theorem prefix_at {l m : List Nat} (h : l <+: m) {i b : Nat} (hb : l[i]? = some b) : m[i]? = some b := by
 obtain ⟨t, rfl⟩ := h
 rw [List.getElem?_append_left (List.getElem?_eq_some_iff.1 hb).1, hb]
theorem Rel.size (h : Rel S L w0 pr PN NM s w) : w0.heap.size ≤ w.heap.size := h.only.size
theorem only_alloc (w : World) (o : Obj) : Only [] w (w.alloc o) := (Only.of (Below.refl _ _)).alloc o
theorem Rel.new (h : Rel S L w0 pr PN NM s w) (cs : Array Value) (t : TypeId) : Rel S L w0 pr PN NM { s with hp := s.hp ++ [⟨w.heap.size, .vals cs, t⟩] } (w.alloc (.cells cs t)) := by
 obtain ⟨F, hf⟩ := h.side
 refine ⟨h.has.new cs t, ⟨F, S.stable _ _ _ _ _ hf.inv (only_alloc w _) (by simp), fun x hx => ?_, fun b hb => ⟨Nat.lt_of_lt_of_le (hf.foot b hb).1 (only_alloc w (.cells cs t)).size, (hf.foot b hb).2⟩⟩, h.only.alloc _, fun x hx => ?_, ?_, h.pn, fun q hq => holds_only (h.pnw q hq) (only_alloc w _) (by simp)⟩
 ·rcases List.mem_append.1 hx with h1 | h1
  ·exact hf.apart x h1
  ·simp at h1
   subst h1
   intro hb
   have := (hf.foot _ hb).1
   simp only at this
   omega
 ·rcases List.mem_append.1 hx with h1 | h1
  ·exact h.own x h1
  ·simp at h1
   subst h1
   exact .inr h.size
 ·simp only [List.map_append]
  exact h.pre.trans (List.prefix_append _ _)
theorem Rel.put (h : Rel S L w0 pr PN NM s w) {p off : Nat} {x : Blk} {u : Value} {cs' : Cells} (hx : s.hp[p]? = some x) (ho : x.cs.arr[off]? = some u) (hp' : pr.has p = false) (v : Value) (o : List Nat) (hcs : cs'.arr = x.cs.arr.setIfInBounds off v) (hend : ∀ r, x.cs.ends r → cs'.ends r) :
  Rel S L w0 pr PN NM { s with hp := s.hp.set p { x with cs := cs' }, orc := o } (w.setCell ⟨x.b, off, none⟩ v) := by
 obtain ⟨F, hf⟩ := h.side
 have hm := List.mem_of_getElem? hx
 have hmap := map_set s.hp p x { x with cs := cs' } hx rfl
 have hb : ∀ z ∈ s.hp.set p { x with cs := cs' }, z.b ∈ s.hp.map (·.b) := by
  intro z hz
  rw [← hmap]
  exact List.mem_map.2 ⟨z, hz, rfl⟩
 have hset : Only [x.b] w (w.setCell ⟨x.b, off, none⟩ v) := (Only.of (Below.refl _ _)).set x.b off v (.inl (by simp))
 refine ⟨h.has.set hx ho v hcs hend, ⟨F, ?_, fun z hz => ?_, fun b hb => ⟨Nat.lt_of_lt_of_le (hf.foot b hb).1 hset.size, (hf.foot b hb).2⟩⟩, ?_, fun z hz => ?_, ?_, h.pn, fun q hq => ?_⟩
 ·refine S.stable _ _ _ [x.b] _ hf.inv hset fun y hy => ?_
  simp
  rintro rfl
  exact hf.apart x hm hy
 ·obtain ⟨y, hy, e⟩ := List.mem_map.1 (hb z hz)
  have := hf.apart y hy
  rwa [e] at this
 ·exact h.only.set x.b off v (h.own x hm)
 ·obtain ⟨y, hy, e⟩ := List.mem_map.1 (hb z hz)
  have := h.own y hy
  rwa [e] at this
 ·simp only [hmap]
  exact h.pre
 ·refine holds_far (h.pnw q hq) ?_ v
  obtain ⟨h1, h2⟩ := h.pn q hq
  intro e
  have h3 := prefix_at h.pre h2
  rw [List.getElem?_map] at h3
  cases hq1 : s.hp[q.1]? with
  | none => rw [hq1] at h3; simp at h3
  | some y =>
   rw [hq1] at h3
   simp at h3
   have := nodup_at h.has.nd hq1 hx (h3.trans e)
   rw [this, hp'] at h1
   cases h1
theorem Rel.orc (h : Rel S L w0 pr PN NM s w) (o : List Nat) : Rel S L w0 pr PN NM { s with orc := o } w := ⟨h.has, h.side.imp fun F hf => ⟨hf.inv, hf.apart, hf.foot⟩, h.only, h.own, h.pre, h.pn, h.pnw⟩
theorem Rel.at_ (h : Rel S L w0 pr PN NM s w) {q : Nat × Blk} (hq : q ∈ PN) : ∃ y ∈ s.hp, y.b = q.2.b := by
 have h3 := prefix_at h.pre (h.pn q hq).2
 rw [List.getElem?_map] at h3
 cases hq1 : s.hp[q.1]? with
 | none => rw [hq1] at h3; simp at h3
 | some y =>
  rw [hq1] at h3
  simp at h3
  exact ⟨y, List.mem_of_getElem? hq1, h3⟩
theorem Rel.turn (h : Rel S L w0 pr PN NM s w) {F F' : List Nat} (hf : Foot S L w0 s w F) {e : S.E} (ho : Only F w w') (hi : S.I e w' F') (hF : ∀ b ∈ F', b < w'.heap.size ∧ (b ∈ F ∨ w.heap.size ≤ b)) : Rel S L w0 pr PN NM { s with e := e } w' := by
 refine ⟨⟨h.has.nd, fun x hx => holds_only (h.has.each x hx) ho (hf.apart x hx)⟩, ⟨F', hi, fun x hx hb => ?_, fun b hb => ⟨(hF b hb).1, ?_⟩⟩, ?_, h.own, h.pre, h.pn, fun q hq => ?_⟩
 ·rcases (hF _ hb).2 with h1 | h1
  ·exact hf.apart x hx h1
  ·have := holds_lt (h.has.each x hx)
   omega
 ·rcases (hF b hb).2 with h1 | h1
  ·exact (hf.foot b h1).2
  ·exact .inr (Nat.le_trans h.size h1)
 ·refine ⟨ho.os.trans h.only.os, ho.tape.trans h.only.tape, ho.output.trans h.only.output, Nat.le_trans h.only.size ho.size, fun k hk hn => ?_⟩
  rw [ho.block k (Nat.lt_of_lt_of_le hk h.only.size), h.only.block k hk hn]
  intro hkF
  rcases (hf.foot k hkF).2 with h1 | h1
  ·exact hn h1
  ·omega
 ·obtain ⟨y, hy, e⟩ := h.at_ hq
  refine holds_only (h.pnw q hq) ho ?_
  rw [← e]
  exact hf.apart y hy
theorem Rel.below (h : Rel S L w0 pr PN NM s w) (hb : Below w.heap.size w w') : Rel S L w0 pr PN NM s w' := by
 have ho : Only [] w w' := .of hb
 obtain ⟨F, hf⟩ := h.side
 exact ⟨⟨h.has.nd, fun x hx => holds_only (h.has.each x hx) ho (by simp)⟩, ⟨F, S.stable _ _ _ _ _ hf.inv ho (by simp), hf.apart, fun b hb => ⟨Nat.lt_of_lt_of_le (hf.foot b hb).1 ho.size, (hf.foot b hb).2⟩⟩, h.only.trans (ho.wide (by simp)), h.own, h.pre, h.pn, fun q hq => holds_only (h.pnw q hq) ho (by simp)⟩
theorem Rel.more (h : Rel S L w0 pr PN NM s w) {hp0 : List Blk} (h0 : NM = hp0.map (·.b)) {pr' : Prot} {PN' : List (Nat × Blk)} (h1 : ∀ p, pr.has p = true → pr'.has p = true)
  (h2 : ∀ q ∈ PN', q ∈ PN ∨ (pr'.has q.1 = true ∧ hp0[q.1]? = some q.2 ∧ q.2.holds w)) : Rel S L w0 pr' PN' NM s w := by
 refine ⟨h.has, h.side, h.only, h.own, h.pre, fun q hq => ?_, fun q hq => ?_⟩
 ·rcases h2 q hq with h3 | ⟨h3, h4, h5⟩
  ·exact ⟨h1 _ (h.pn q h3).1, (h.pn q h3).2⟩
  ·have h6 : NM[q.1]? = some q.2.b := by rw [h0, List.getElem?_map, h4]; rfl
   exact ⟨h3, h6⟩
 ·rcases h2 q hq with h3 | ⟨_, _, h5⟩
  ·exact h.pnw q h3
  ·exact h5
theorem Rel.less {pr' : Prot} {PN' : List (Nat × Blk)} {NM' : List Nat} {s0 : St S.E} {w1 : World} (h : Rel S L w0 pr' PN' NM' s w) (h0 : Rel S L w0 pr PN NM s0 w1) (hn : NM <+: NM') (h1 : ∀ q ∈ PN, q ∈ PN') : Rel S L w0 pr PN NM s w :=
 ⟨h.has, h.side, h.only, h.own, hn.trans h.pre, h0.pn, fun q hq => h.pnw q (h1 q hq)⟩
end
theorem pop_some {E : Type} {s s' : St E} {p : Nat} {x : Blk} (h : s.pop = some (p, x, s')) : s.hp[p]? = some x ∧ ∃ o, s' = { s with orc := o } := by
 unfold St.pop at h
 split at h
 ·split at h
  ·cases h
   exact ⟨by assumption, _, rfl⟩
  ·cases h
 ·cases h
def Holds (w : World) (hp : List Blk) : Prop := ∀ x ∈ hp, x.holds w
theorem cell_at {w : World} {hp : List Blk} (h : Holds w hp) {p : Nat} {x : Blk} (hx : hp[p]? = some x) (i : Nat) (v : Value) (hv : x.cs.arr[i]? = some v) : w.cell? ⟨x.b, i, none⟩ = some v := by
 obtain ⟨rest, hr, _⟩ := h x (List.mem_of_getElem? hx)
 rw [blk_cell hr, Array.getElem?_append_left (Array.getElem?_eq_some_iff.1 hv).1, hv]
theorem cell_of {w : World} {hp : List Blk} (h : Has w hp) {p : Nat} {x : Blk} (hx : hp[p]? = some x) (i : Nat) (v : Value) (hv : x.cs.arr[i]? = some v) : w.cell? ⟨x.b, i, none⟩ = some v := cell_at h.each hx i v hv
theorem frozen_of {w : World} {hp : List Blk} (h : Has w hp) {p : Nat} {x : Blk} (hx : hp[p]? = some x) (a : Addr) (ha : a.block = x.b) : w.frozen? a = false := by
 obtain ⟨rest, hr, _⟩ := h.each x (List.mem_of_getElem? hx)
 simp [World.frozen?, ha, hr]
theorem ints_at (l : List Int) (i : Nat) (h : i < l.length) : (Cells.ints l).arr[i]? = some (.int .i64 (l.getD i 0)) := by
 simp [Cells.arr, h, List.getD_eq_getElem?_getD]
theorem addr_eq {a : Addr} {b : Nat} (h1 : a.block = b) (h2 : a.spot = none) : a = ⟨b, a.off, none⟩ := by
 cases a
 simp at h1 h2
 simp [h1, h2]
theorem run_store_one {α : Type} {P : Program} {m : Mode} {a : Addr} {v u : Value} {k : Sem α} {w : World} (h : one v = true) (hc : w.cell? a = some u) (hf : w.frozen? a = false) : (Sem.store m a v k).run P w = k.run P (w.setCell a v) := by
 cases v <;> simp_all [Sem.run, one]
theorem semT_sound {α : Type} (P : Program) {L : List Nat} {w0 : World} {pr : Prot} {PN : List (Nat × Blk)} {NM : List Nat} (Q : α × St S.E → Prop) (x : Sem α) : ∀ (s : St S.E) (w : World), (semT P pr x s).sat Q → Rel S L w0 pr PN NM s w → ∃ a w' s', x.run P w = .ok a w' ∧ Q (a, s') ∧ Rel S L w0 pr PN NM s' w' := by
 induction x with
 | pure a => exact fun s w h hr => ⟨a, w, s, rfl, h, hr⟩
 | program k ih => exact fun s w h hr => ih P s w h hr
 | mark m k ih => exact fun s w h hr => ih s w h hr
 | load m a k ih =>
  intro s w h hr
  unfold semT at h
  split at h
  ·rename_i p y s' hs
   obtain ⟨hx, o, rfl⟩ := pop_some hs
   split at h
   ·rename_i h2
    obtain ⟨h1, h3⟩ := h
    have hv : ∃ v o', y.cs.arr[a.off]? = some v ∧ (semT P pr (k v) { s with orc := o' }).sat Q := by
     split at h3
     ·rename_i c hc
      split at h3
      ·rename_i v hv
       exact ⟨v, o, by rw [hc]; exact hv, h3⟩
      ·exact h3.elim
     ·rename_i l hl
      exact ⟨_, o, by rw [hl]; exact ints_at l _ h3.1, h3.2⟩
     ·rename_i pre c post hc
      split at h3
      ·rename_i i o' ho
       obtain ⟨h5, h3⟩ := h3
       split at h3
       ·rename_i v hv
        exact ⟨v, o', by rw [hc, h5]; exact win_at pre c post i v hv, h3⟩
       ·exact h3.elim
      ·exact h3.elim
    obtain ⟨v, o', hv, h4⟩ := hv
    obtain ⟨r, w', s', e1, e2⟩ := ih v { s with orc := o' } w h4 (hr.orc o')
    have hcell := cell_of hr.has hx a.off v hv
    rw [← addr_eq h1 h2] at hcell
    exact ⟨r, w', s', by simp only [Sem.run, hcell]; exact e1, e2⟩
   ·exact h.elim
  ·exact h.elim
 | store m a v k ih =>
  intro s w h hr
  unfold semT at h
  split at h
  ·rename_i p y s' h1v hs
   obtain ⟨hx, o, rfl⟩ := pop_some hs
   split at h
   ·rename_i h2 hpr
    obtain ⟨h1, h3⟩ := h
    split at h3
    ·rename_i c hc
     split at h3
     ·rename_i u hu
      have hr' := hr.put (cs' := .vals (c.setIfInBounds a.off v)) hx (by rw [hc]; exact hu) hpr v o (by rw [hc]; rfl) (by rw [hc]; exact fun r h => h)
      rw [← addr_eq h1 h2] at hr'
      obtain ⟨r, w', s', e1, e2⟩ := ih _ _ h3 hr'
      have hcell := cell_of hr.has hx a.off u (by rw [hc]; exact hu)
      rw [← addr_eq h1 h2] at hcell
      exact ⟨r, w', s', (run_store_one h1v hcell (frozen_of hr.has hx a h1)).trans e1, e2⟩
     ·exact h3.elim
    ·exact h3.elim
    ·rename_i pre c post hc
     split at h3
     ·rename_i i o' ho
      obtain ⟨h5, h3⟩ := h3
      split at h3
      ·rename_i u hu
       have hu' : y.cs.arr[a.off]? = some u := by rw [hc, h5]; exact win_at pre c post i u hu
       have hr' := hr.put (cs' := .win pre (c.setIfInBounds i v) post) hx hu' hpr v o' (by
        rw [hc, h5]
        exact win_set pre c post i v (Array.getElem?_eq_some_iff.1 hu).1) (by rw [hc]; exact fun r h => h)
       rw [← addr_eq h1 h2] at hr'
       obtain ⟨r, w', s', e1, e2⟩ := ih _ _ h3 hr'
       have hcell := cell_of hr.has hx a.off u hu'
       rw [← addr_eq h1 h2] at hcell
       exact ⟨r, w', s', (run_store_one h1v hcell (frozen_of hr.has hx a h1)).trans e1, e2⟩
      ·exact h3.elim
     ·exact h3.elim
   ·exact h.elim
  ·exact h.elim
 | new o k ih =>
  intro s w h hr
  cases o with
  | cells cs t fr =>
   obtain ⟨x, y⟩ := fr
   match x, y, h with
   | 0, 0, h =>
    obtain ⟨r, w', s', e1, e2⟩ := ih w.heap.size _ _ (h w.heap.size) (hr.new cs t)
    exact ⟨r, w', s', e1, e2⟩
  | _ => exact h.elim
 | frozen a k ih =>
  intro s w h hr
  unfold semT at h
  split at h
  ·rename_i p y s' hs
   obtain ⟨hx, o, rfl⟩ := pop_some hs
   obtain ⟨h1, h3⟩ := h
   obtain ⟨r, w', s', e1, e2⟩ := ih false { s with orc := o } w h3 (hr.orc o)
   exact ⟨r, w', s', by simp only [Sem.run, frozen_of hr.has hx a h1]; exact e1, e2⟩
  ·exact h.elim
 | _ => intro s w h hr; exact h.elim
theorem semR_sound {α : Type} (P : Program) (hp : List Blk) (x : Sem α) : ∀ (o o' : List Nat) (ps ps' : List (Nat × Nat)) (c c' : List Prop) (a : α), semR P hp x o ps c = some (a, o', ps', c') → agree ps' → all c' → (∀ w, Holds w hp → x.run P w = .ok a w) ∧ agree ps ∧ all c := by
 induction x with
 | pure a =>
  intro o o' ps ps' c c' b h hp hc
  cases h
  exact ⟨fun w _ => rfl, hp, hc⟩
 | program k ih => exact fun o o' ps ps' c c' b h hp hc => ih P o o' ps ps' c c' b h hp hc
 | mark m k ih => exact fun o o' ps ps' c c' b h hp hc => ih o o' ps ps' c c' b h hp hc
 | load m a k ih =>
  intro o o' ps ps' c c' b h hp hc
  unfold semR at h
  split at h
  ·rename_i p o1
   split at h
   ·rename_i x hx hsp
    split at h
    ·rename_i cs hcs
     split at h
     ·rename_i v hv
      obtain ⟨h1, h2, h3⟩ := ih v _ _ _ _ _ _ _ h hp hc
      refine ⟨fun w hw => ?_, h2.2, h3⟩
      have hcell := cell_at hw hx a.off v (by rw [hcs]; exact hv)
      rw [← addr_eq h2.1 hsp] at hcell
      simp only [Sem.run, hcell]
      exact h1 w hw
     ·cases h
    ·rename_i l hl
     obtain ⟨h1, h2, h3⟩ := ih _ _ _ _ _ _ _ _ h hp hc
     refine ⟨fun w hw => ?_, h2.2, h3.2⟩
     have hcell := cell_at hw hx a.off _ (by rw [hl]; exact ints_at l _ h3.1)
     rw [← addr_eq h2.1 hsp] at hcell
     simp only [Sem.run, hcell]
     exact h1 w hw
    ·rename_i pre c0 post hcs
     split at h
     ·rename_i i o2
      split at h
      ·rename_i v hv
       obtain ⟨h1, h2, h3⟩ := ih v _ _ _ _ _ _ _ h hp hc
       refine ⟨fun w hw => ?_, h2.2, h3.2⟩
       have hcell := cell_at hw hx a.off v (by rw [hcs, h3.1]; exact win_at pre c0 post i v hv)
       rw [← addr_eq h2.1 hsp] at hcell
       simp only [Sem.run, hcell]
       exact h1 w hw
      ·cases h
     ·cases h
   ·cases h
  ·cases h
 | _ => intro o o' ps ps' c c' b h; cases h
end Go.Proofs.YtfinmiakbpmjiaaGreat.Ax
namespace Go.Proofs.YtfinmiakbpmjiaaGreat.Ax
open Go Go.RowKit Go.Proofs.YtfinmiakbpmjiaaGreat
def evalT (t : Array Value) : Operand → Value := (⟨t, []⟩ : Act).eval
def putT (t : Array Value) (d : Option Tmp) (v : Value) : Array Value := match d with
 | some d => t.setIfInBounds d v
 | none => t
theorem put_act (t : Array Value) (d : Option Tmp) (v : Value) : (⟨t, []⟩ : Act).put d v = ⟨putT t d v, []⟩ := by cases d <;> rfl
def flag : Nat → Bool
 | 1 => true
 | _ => false
def offAt (i : Operand) (f n size : Nat) : Nat := match i with
 | .const _ => f + n * size
 | _ => match size with
  | 1 => n + f
  | _ => n * size + f
theorem offAt_eq (i : Operand) (f n size : Nat) : offAt i f n size = f + n * size := by
 unfold offAt
 split
 ·rfl
 ·split
  ·omega
  ·omega
def cutBy (cap n size : Nat) : Nat := if cap = n then 0 else n * size
def lacking (want : Array (String × TypeId)) (got : Array Method) : Bool := match want.toList.filter fun (name, sig) => !got.any fun m => m.name == name && m.sig == sig with
 | [] => false
 | _ => true
theorem least_some {l : List String} (h : l ≠ []) : ∃ m, Instr.least l = some m := by
 cases l with
 | nil => exact (h rfl).elim
 | cons x xs => exact ⟨_, rfl⟩
theorem lacking_some {want : Array (String × TypeId)} {got : Array Method} (h : lacking want got = true) : ∃ m, Instr.missingMethod want got = some m := by
 unfold lacking at h
 unfold Instr.missingMethod
 generalize (want.toList.filter fun (name, sig) => !got.any fun m => m.name == name && m.sig == sig) = l at h ⊢
 cases l with
 | nil => cases h
 | cons x xs =>
  simp only [List.map_cons]
  cases hp : (x.1 :: xs.map (·.1)).partition (·.contains (Char.ofNat 46)) with
  | mk a b =>
   simp only []
   by_cases hb : b = []
   ·have ha : a ≠ [] := by
     intro ha
     rw [List.partition_eq_filter_filter] at hp
     cases hp
     have h1 : x.1 ∈ (x.1 :: xs.map (·.1)) := List.mem_cons_self
     cases hc : x.1.contains (Char.ofNat 46)
     ·have : x.1 ∈ ([] : List String) := hb ▸ List.mem_filter.2 ⟨h1, by show (!x.1.contains (Char.ofNat 46)) = true; rw [hc]; rfl⟩
      cases this
     ·have : x.1 ∈ ([] : List String) := ha ▸ List.mem_filter.2 ⟨h1, hc⟩
      cases this
    obtain ⟨m, hm⟩ := least_some (l := a.map fun id => (id.splitOn ".").getLastD id) (by simpa using ha)
    subst hb
    exact ⟨m, by rw [hm]; rfl⟩
   ·obtain ⟨m, hm⟩ := least_some hb
    exact ⟨m, by rw [hm]; rfl⟩
def specialAt (P : Program) (o : Op) (ev : Operand → Value) (orc : List Nat) : Option (Value × List Nat × List Prop) :=
 match o with
 | .pick c x y => match ev c, orc with
  | .bool t, 2 :: r => match t with | false => some (ev y, r, []) | true => none
  | .bool t, 3 :: r => match t with | true => some (ev x, r, []) | false => none
  | .bool t, b :: r => some (match flag b with | true => ev x | false => ev y, r, [t = flag b])
  | _, _ => none
 | .indexAddr t x i => match ev x, ev i, P.underlying t with
  | .slice (some ⟨b, f, none⟩) len _, .int _ n, some (.slice e) => match P.info? e with
   | some inf => some (.pointer (some ⟨b, offAt i f n.toNat inf.size, none⟩), orc, [0 ≤ n, n < (len : Int)])
   | none => none
  | _, _, _ => none
 | .slice t x (some lo) none none => match ev x, ev lo, P.underlying t with
  | .slice (some ⟨b, f, none⟩) len cap, .int _ n, some (.slice e) => match P.info? e with
   | some inf => some (.slice (some ⟨b, f + cutBy cap n.toNat inf.size, none⟩) (len - n.toNat) (cap - n.toNat), orc, [0 ≤ n, n ≤ (len : Int)])
   | none => none
  | _, _, _ => none
 | .typeAssert x _ a true => match ev x, P.underlying a, P.info? a with
  | .iface t _, some (.interface want), some ia => match P.info? t, ia.zero with
   | some it, some z => match lacking want it.methods with
    | true => some (.tuple #[z, .bool false], orc, [])
    | false => none
   | _, _ => none
  | _, _, _ => none
 | _ => none
def special (P : Program) (o : Op) (ev : Operand → Value) : List Nat → Option (Value × List Nat × List Prop)
 | m :: orc => match Nat.beq m 199 with
  | true => specialAt P o ev orc
  | false => none
 | [] => none
theorem add_plain (a : Addr) (n : Nat) (h : a.spot = none) : a.add n = ⟨a.block, a.off + n, none⟩ := by
 unfold Addr.add
 split
 ·subst_vars
  exact addr_eq rfl h
 ·rfl
theorem specialAt_sound {P : Program} {o : Oper} {ev : Operand → Value} {orc orc' : List Nat} {v : Value} {cs : List Prop} (h : specialAt P o.op ev orc = some (v, orc', cs)) (hc : all cs) (w : World) : (execOp ev o).run P w = .ok (.value v) w := by
 unfold specialAt at h
 split at h
 ·rename_i c x y ho
  split at h
  ·rename_i t r ht
   split at h
   ·cases h
    simp only [execOp, ho, ht]
    rfl
   ·cases h
  ·rename_i t r ht
   split at h
   ·cases h
    simp only [execOp, ho, ht]
    rfl
   ·cases h
  ·rename_i t b r _ _ ht
   cases h
   have e : t = flag b := hc.1
   simp only [execOp, ho, ht, ← e]
   cases t <;> rfl
  ·cases h
 ·rename_i t x i ho
  split at h
  ·rename_i b f len _ k n e hx hi hu
   split at h
   ·rename_i inf hinf
    cases h
    obtain ⟨h0, h1, _⟩ := hc
    simp only [execOp, ho, Instr.indexAt, hx, hi, asIntOf]
    simp [go_sem, run_underlying hu, Sem.run_bind, sizeOf, typeInfo, program, Sem.run, hinf, h0, h1, add_plain ⟨b, f, none⟩ _ rfl, offAt_eq]
   ·cases h
  ·cases h
 ·rename_i t x lo ho
  split at h
  ·rename_i b f len cap k n e hx hi hu
   split at h
   ·rename_i inf hinf
    cases h
    obtain ⟨h0, h1, _⟩ := hc
    simp only [execOp, ho, Instr.sliceAt, hx, hi, asIntOf]
    have hle : n ≤ (len : Int) := h1
    simp [hi, go_sem, run_underlying hu, Sem.run_bind, Instr.slice, Instr.sliceBounds, Instr.sliceBound, asIntOf, sizeOf, typeInfo, program, Sem.run, hinf, h0, h1, add_plain ⟨b, f, none⟩ _ rfl]
    unfold cutBy
    by_cases hcap : cap = n.toNat <;> simp [hcap]
   ·cases h
  ·cases h
 ·rename_i x xt a ho
  split at h
  ·rename_i t v' want ia hx hu ha
   split at h
   ·rename_i it z hit hz
    split at h
    ·rename_i hl
     cases h
     obtain ⟨m, hm⟩ := lacking_some hl
     simp only [execOp, ho, Instr.typeAssert, hx]
     simp [go_sem, run_underlying hu, Sem.run_bind, zeroValue, typeInfo, program, Sem.run, hit, ha, hz, hm]
    ·cases h
   ·cases h
  ·cases h
 ·cases h
theorem special_sound {P : Program} {o : Oper} {ev : Operand → Value} {orc orc' : List Nat} {v : Value} {cs : List Prop} (h : special P o.op ev orc = some (v, orc', cs)) (hc : all cs) (w : World) : (execOp ev o).run P w = .ok (.value v) w := by
 unfold special at h
 split at h
 ·split at h
  ·exact specialAt_sound h hc w
  ·cases h
 ·cases h
def fltR (P : Program) (o : Oper) (ev : Operand → Value) (hp : List Blk) (orc : List Nat) : Option (Value × List Nat × List (Nat × Nat) × List Prop) :=
 match special P o.op ev orc with
 | some (v, r, cs) => some (v, r, [], cs)
 | none => match semR P hp (execOp ev o) orc [] [] with
  | some (.value v, r, ps, cs) => some (v, r, ps, cs)
  | _ => none
theorem fltR_sound {P : Program} {o : Oper} {ev : Operand → Value} {hp : List Blk} {orc orc' : List Nat} {v : Value} {ps : List (Nat × Nat)} {cs : List Prop} (h : fltR P o ev hp orc = some (v, orc', ps, cs)) (ha : agree ps) (hc : all cs) (w : World) (hw : Holds w hp) : (execOp ev o).run P w = .ok (.value v) w := by
 unfold fltR at h
 split at h
 ·rename_i v' r' cs' hr
  cases h
  exact special_sound hr hc w
 ·split at h
  ·rename_i v' r' ps' cs' hr
   cases h
   exact (semR_sound P _ _ _ _ _ _ _ _ _ hr ha hc).1 w hw
  ·cases h
def asked {β : Type} : List Prop → Tree β → Tree β
 | [], t => t
 | c :: cs, t => .ask c (asked cs t)
theorem sat_asked {β : Type} {cs : List Prop} {t : Tree β} {Q : β → Prop} (h : (asked cs t).sat Q) : all cs ∧ t.sat Q := by
 induction cs with
 | nil => exact ⟨trivial, h⟩
 | cons c cs ih => exact ⟨⟨h.1, (ih h.2).1⟩, (ih h.2).2⟩
def fixT (t : Array Value) (d : Tmp) (b : Bool) : Array Value := t.setIfInBounds d (.bool b)
theorem fixT_same {t : Array Value} {d : Tmp} {b : Bool} (h : t[d]? = some (.bool b)) : fixT t d b = t := by
 unfold fixT
 apply Array.ext_getElem?
 intro i
 rw [Array.getElem?_setIfInBounds]
 split
 ·rename_i e
  subst e
  obtain ⟨h1, h2⟩ := Array.getElem?_eq_some_iff.1 h
  simp [h1, h2]
 ·rfl
def fixO (t : Array Value) (c : Operand) (b : Bool) : Array Value := match c with
 | .tmp d => fixT t d b
 | _ => t
theorem fixO_same {t : Array Value} {c : Operand} {b : Bool} (h : evalT t c = .bool b) : fixO t c b = t := by
 cases c with
 | tmp d =>
  refine fixT_same ?_
  unfold evalT Act.eval at h
  simp only [] at h
  cases ht : t[d]? with
  | none =>
   rw [Array.getD_eq_getD_getElem?, ht] at h
   cases h
  | some v =>
   rw [Array.getD_eq_getD_getElem?, ht] at h
   simp at h
   rw [h]
 | _ => rfl
def guarded {E β : Type} (ops : Array Oper) (o : Oper) (t : Array Value) (s : St E) (yes no : Array Value → St E → Tree β) : Tree β :=
 match o.guard with
 | none => yes t s
 | some (j, want) => match (ops[j]?).bind (·.dst) with
  | none => no t s
  | some d => match t[d]? with
   | some (.bool x) => tested x s fun b s => match b, want with
    | true, true => yes (fixT t d true) s
    | false, false => yes (fixT t d false) s
    | true, false => no (fixT t d true) s
    | false, true => no (fixT t d false) s
   | _ => no t s
theorem wanted_none {o : Oper} {y : Nat → Option Bool} (hg : o.guard = none) : Region.wanted o y = true := by unfold Region.wanted; rw [hg]
theorem wanted_some {o : Oper} {y : Nat → Option Bool} {j : Nat} {want : Bool} (hg : o.guard = some (j, want)) : Region.wanted o y = (y j == some want) := by unfold Region.wanted; rw [hg]
theorem sat_guarded {E β : Type} {ops : Array Oper} {o : Oper} {t : Array Value} {s : St E} {yes no : Array Value → St E → Tree β} {Q : β → Prop} (h : (guarded ops o t s yes no).sat Q) :
  ∃ r, (Region.wanted o (yielded ops t) = true ∧ (yes t { s with orc := r }).sat Q) ∨ (Region.wanted o (yielded ops t) = false ∧ (no t { s with orc := r }).sat Q) := by
 unfold guarded at h
 split at h
 ·rename_i hg
  exact ⟨s.orc, .inl ⟨wanted_none hg, h⟩⟩
 ·rename_i j want hg
  rw [wanted_some hg]
  unfold yielded
  split at h
  ·rename_i hd
   exact ⟨s.orc, .inr ⟨by simp [hd], h⟩⟩
  ·rename_i d hd
   simp only [hd, Option.bind_some]
   split at h
   ·rename_i x hx
    obtain ⟨r, h⟩ := sat_tested h
    refine ⟨r, ?_⟩
    simp only [hx]
    cases x <;> cases want <;> simp only [] at h <;> rw [fixT_same hx] at h
    ·exact .inl ⟨by simp, h⟩
    ·exact .inr ⟨by simp, h⟩
    ·exact .inr ⟨by simp, h⟩
    ·exact .inl ⟨by simp, h⟩
   ·rename_i hn
    refine ⟨s.orc, .inr ⟨?_, h⟩⟩
    split
    ·rename_i b hb
     exact (hn b hb).elim
    ·simp
def Prot.join (pr : Prot) (n : Nat) (is : List Nat) : Prot := ⟨max pr.n n, pr.l ++ is⟩
section
variable {E : Type} (P : Program) (callT : Prot → FuncId → Array Value → St E → Tree (Value × St E))
def opT (pr : Prot) (o : Oper) (t : Array Value) (s : St E) : Tree (Value × St E) :=
 match special P o.op (evalT t) s.orc with
 | some (v, r, cs) => asked cs (.done (v, { s with orc := r }))
 | none => (semT P pr (execOp (evalT t) o) s).bind fun x => match x.1 with
  | .value v => .done (v, x.2)
  | .skip => .done (undef, x.2)
  | .enter f args => callT pr f args x.2
  | _ => .fail
def opsT (pr : Prot) (ops : Array Oper) : List Nat → Array Value → St E → Tree (Array Value × St E)
 | [], t, s => .done (t, s)
 | i :: is, t, s => match ops[i]? with
  | none => .fail
  | some o => guarded ops o t s (fun t s => (opT P callT pr o t s).bind fun x => opsT pr ops is (putT t o.dst x.1) x.2) (fun t s => opsT pr ops is (putT t o.dst undef) s)
def pickB (is : List Nat) (hp : List Blk) : List Blk := is.filterMap (hp[·]?)
def spineT (pr : Prot) (ops : Array Oper) (hp0 : List Blk) (tl : Nat) (is : List Nat) (i : Nat) (l : Array Bool) (t : Array Value) (s : St E) (k : Array Bool → Array Value → St E → Tree (Array Value × St E)) : Tree (Array Value × St E) :=
 match ops[i]? with
 | none => .fail
 | some o => guarded ops o t s (fun t s => (opT P callT (pr.join (match (l.setIfInBounds i true).getD tl false with | true => 0 | false => hp0.length) is) o t s).bind fun x => k (l.setIfInBounds i true) (putT t o.dst x.1) x.2)
   (fun t s => match (l.setIfInBounds i true).getD tl false with
    | true => .fail
    | false => k (l.setIfInBounds i true) (putT t o.dst undef) s)
def moveT (pr : Prot) (ops : Array Oper) (hp0 : List Blk) (tl : Nat) (is : List Nat) : Nat → Array Bool → Array Value → St E → Tree (Array Value × St E)
 | 0, l, t, s => match (Region.ready .any ops l).isEmpty with
  | true => .done (t, s)
  | false => .fail
 | n + 1, l, t, s => match s.orc with
  | [] => .fail
  | m :: orc => match ops[m / 4]? with
   | none => .fail
   | some o => match m % 4 with
    | 0 => match !l.getD tl false && m / 4 != tl && Region.free .any ops l (m / 4) && (Region.ready .any ops l).contains (m / 4) && (match ops[tl]? with | some x => x.after.any (fun e => Region.binds .any e && e.on == m / 4) | none => true) with
     | false => .fail
     | true => guarded ops o t { s with orc := orc } (fun t s => match fltR P o (evalT t) hp0 s.orc with
       | none => .fail
       | some (v, r, ps, cs) => sames ps (asked cs (moveT pr ops hp0 tl is n (l.setIfInBounds (m / 4) true) (putT t o.dst v) { s with orc := r })))
      (fun t s => moveT pr ops hp0 tl is n (l.setIfInBounds (m / 4) true) (putT t o.dst undef) s)
    | 2 => match m / 4 != tl && Region.free .any ops l (m / 4) && (Region.ready .any ops l).contains (m / 4) with
     | false => .fail
     | true => guarded ops o t { s with orc := orc } (fun t s => match fltR P o (evalT t) (pickB is hp0) s.orc with
       | none => .fail
       | some (v, r, ps, cs) => sames ps (asked cs (moveT pr ops hp0 tl is n (l.setIfInBounds (m / 4) true) (putT t o.dst v) { s with orc := r })))
      (fun t s => moveT pr ops hp0 tl is n (l.setIfInBounds (m / 4) true) (putT t o.dst undef) s)
    | 1 => match Region.ready .any ops l == [m / 4] with
     | true => spineT P callT pr ops hp0 tl is (m / 4) l t { s with orc := orc } fun l t s => moveT pr ops hp0 tl is n l t s
     | false => .fail
    | _ => match Region.ready .any ops l, orc with
     | [i, j], k :: orc => .both (spineT P callT pr ops hp0 tl is i l t { s with orc := orc.drop k } fun l t s => moveT pr ops hp0 tl is n l t s)
      (spineT P callT pr ops hp0 tl is j l t { s with orc := orc.take k } fun l t s => moveT pr ops hp0 tl is n l t s)
     | _, _ => .fail
inductive Ex where
 | norm
 | ret
 | brk (id : Nat)
def loopT (f : Array Value → St E → Tree (Ex × Array Value × St E)) : Nat → Array Value → St E → Tree (Ex × Array Value × St E)
 | 0, _, _ => .fail
 | n + 1, t, s => (f t s).bind fun x => match x.1 with
  | .norm => loopT f n x.2.1 x.2.2
  | e => .done (e, x.2)
def codeT (pr : Prot) (rounds : Nat) : Code → Array Value → St E → Tree (Ex × Array Value × St E)
 | .skip, t, s => .done (.norm, t, s)
 | .region _ ops false, t, s => (opsT P callT pr ops (List.range ops.size) t s).bind fun x => .done (.norm, x)
 | .region _ ops true, t, s => match s.orc, Region.noSelect ops with
  | tl :: k :: orc, true => (moveT P callT pr ops s.hp tl (orc.take k) ops.size (Array.replicate ops.size false) t { s with orc := orc.drop k }).bind fun x => .done (.norm, x)
  | _, _ => .fail
 | .seq a b, t, s => (codeT pr rounds a t s).bind fun x => match x.1 with
  | .norm => codeT pr rounds b x.2.1 x.2.2
  | e => .done (e, x.2)
 | .cond c a b, t, s => match evalT t c with
  | .bool x => tested x s fun x s => match x with
   | true => codeT pr rounds a (fixO t c true) s
   | false => codeT pr rounds b (fixO t c false) s
  | _ => .fail
 | .block id b, t, s => (codeT pr rounds b t s).bind fun x => match x.1 with
  | .brk id' => match id' == id with
   | true => .done (.norm, x.2)
   | false => .done (.brk id', x.2)
  | e => .done (e, x.2)
 | .loop b, t, s => loopT (codeT pr rounds b) rounds t s
 | .exit id, t, s => .done (.brk id, t, s)
 | .scope b, t, s => codeT pr rounds b t s
 | .ret, t, s => .done (.ret, t, s)
 | _, _, _ => .fail
end
def pickT {E : Type} (ext : FuncId → Option (Array Value → St E → Tree (Value × St E))) (f : Prot → FuncId → Array Value → St E → Tree (Value × St E)) (pr : Prot) (g : FuncId) (args : Array Value) (s : St E) : Tree (Value × St E) := match ext g with
 | some x => x args s
 | none => f pr g args s
def bodyT {E : Type} (P : Program) (ext : FuncId → Option (Array Value → St E → Tree (Value × St E))) (rounds : Nat) : Nat → Prot → FuncId → Array Value → St E → Tree (Value × St E)
 | 0, _, _, _, _ => .fail
 | n + 1, pr, f, args, s => match P.funcs[f]? with
  | none => .fail
  | some fn => match fn.body with
   | none => .fail
   | some c => (codeT P (pickT ext (bodyT P ext rounds n)) pr rounds c (args ++ Array.replicate (fn.ntmps - args.size) undef) s).bind fun x => match x.1 with
    | .brk _ => .fail
    | _ => match semR P x.2.2.hp (results fn x.2.1) x.2.2.orc [] [] with
     | some (v, r, ps, cs) => sames ps (asked cs (.done (v, { x.2.2 with orc := r })))
     | none => .fail
section
variable {P : Program} {ops : Array Oper} {Q : Exit → Act → World → Prop} {S0 : World → Prop} {tl : Nat}
def wpTill (P : Program) (ops : Array Oper) (Q : Exit → Act → World → Prop) (S0 S1 : World → Prop) (tl : Nat) : Nat → Array Bool → Act → World → Prop
 | 0, l, a, w => Region.ready .any ops l = [] ∧ Q .normal a w
 | n + 1, l, a, w => (Region.ready .any ops l = [] → Q .normal a w) ∧
  ∀ i ∈ Region.ready .any ops l, wpOp P ops Q i (fun a' w' => (S1 w' ∧ ((l.setIfInBounds i true).getD tl false = false → S0 w')) ∧ wpTill P ops Q S0 S1 tl n (l.setIfInBounds i true) a' w') a w
variable {S1 : World → Prop}
theorem wpAny_of_till : ∀ (n : Nat) (l : Array Bool) (a : Act) (w : World), wpTill P ops Q S0 S1 tl n l a w → wpAny P .any ops Q n l a w
 | 0, _, _, _, h => h
 | n + 1, _, _, _, h => ⟨h.1, fun i hi => wpOp_mono (fun a' w' h' => wpAny_of_till n _ a' w' h'.2) (h.2 i hi)⟩
theorem getD_set_other {l : Array Bool} {i j : Nat} (d : Bool) (h : i ≠ j) : (l.setIfInBounds i true).getD j d = l.getD j d := getD_set_ne d h
theorem unlisted_of_ready {i j : Nat} {oj : Oper} {l : Array Bool} (hr : i ∈ Region.ready .any ops l) (hall : ∀ e ∈ oj.after, Region.binds .any e = true → l.getD e.on false = true) : ∀ e ∈ oj.after, Region.binds .any e = true → e.on ≠ i := by
 intro e he hb heq
 have h1 := hall e he hb
 have h0 := (mem_ready.1 hr).1
 rw [heq] at h1
 rcases Nat.lt_or_ge i l.size with h' | h'
 ·simp [h'] at h0 h1; rw [h0] at h1; cases h1
 ·simp [Array.getElem?_eq_none h'] at h1
theorem till_first {i : Nat} {oi : Oper} {v : Value} (hi : ops[i]? = some oi) (hsel : Region.noSelect ops = true) (hQ : ∀ c a w, ¬ Q (.panic c) a w)
  (htl : tl ≠ i) (hw : ∀ x, ops[tl]? = some x → x.after.any (fun e => Region.binds .any e && e.on == i) = true) :
  ∀ (n : Nat) (l : Array Bool) (a : Act) (w : World),
   (∀ j oj, ops[j]? = some oj → j ≠ i → l.getD j true = false → (∀ e ∈ oj.after, Region.binds .any e = true → e.on ≠ i) → oi.apart ops oj = true) →
   i ∈ Region.ready .any ops l → l.getD tl false = false → YieldsIf P ops S0 oi v a → S0 w → S1 w →
   wpTill P ops Q S0 S1 tl n (l.setIfInBounds i true) (a.put oi.dst v) w → wpTill P ops Q S0 S1 tl (n + 1) l a w := by
 have hs := Region.noSelect_spec hsel
 intro n
 induction n with
 | zero =>
  intro l a w _ hr _ hy hS hS1 H
  refine ⟨fun h => (by rw [h] at hr; cases hr), fun j hj => ?_⟩
  by_cases hji : j = i
  ·subst hji; exact hy.wpOp hi hS ⟨⟨hS1, fun _ => hS⟩, H⟩
  ·have := ready_mono hj hji
   rw [H.1] at this
   cases this
 | succ n ih =>
  intro l a w hfree hr hl hy hS hS1 H
  refine ⟨fun h => (by rw [h] at hr; cases hr), fun j hj => ?_⟩
  by_cases hji : j = i
  ·subst hji; exact hy.wpOp hi hS ⟨⟨hS1, fun _ => hS⟩, H⟩
  ·have h1 := H.2 j (ready_mono hj hji)
   obtain ⟨hjun, oj, hoj, hall⟩ := mem_ready.1 hj
   have hnot := unlisted_of_ready (j := j) hr hall
   have hjtl : tl ≠ j := by
    rintro rfl
    obtain ⟨e, he, hb⟩ := Array.any_eq_true'.1 (hw _ hoj)
    simp at hb
    exact hnot e he hb.1 hb.2
   have h2 := wpOp_putIf hoj (hfree j oj hoj hji hjun hnot) (fun cs b => hs i oi cs b hi) (fun cs b => hs j oj cs b hoj) (fun c a w h => (hQ _ _ _ h).elim) hy h1
   have hl' : ((l.setIfInBounds i true).setIfInBounds j true).getD tl false = false := by
    rw [getD_set_other _ (Ne.symm hjtl), getD_set_other _ (Ne.symm htl), hl]
   have hl2 : (l.setIfInBounds j true).getD tl false = false := by
    rw [getD_set_other _ (Ne.symm hjtl), hl]
   refine wpOp_mono (fun a' w' h3 => ⟨⟨h3.2.1.1, fun _ => h3.2.1.2 hl'⟩, ih (l.setIfInBounds j true) a' w' ?_ (ready_mono hr (Ne.symm hji)) hl2 h3.1 (h3.2.1.2 hl') h3.2.1.1 ?_⟩) h2
   ·intro k ok hk hki hun hno
    refine hfree k ok hk hki ?_ hno
    by_cases hjk : j = k
    ·subst hjk; exact hjun
    ·rw [getD_set_ne true hjk] at hun; exact hun
   ·rw [Array.setIfInBounds_comm _ _ hji]
    exact h3.2.2
theorem till_first' {i : Nat} {oi : Oper} {v : Value} (hi : ops[i]? = some oi) (hsel : Region.noSelect ops = true) (hQ : ∀ c a w, ¬ Q (.panic c) a w) (htl : tl ≠ i) :
  ∀ (n : Nat) (l : Array Bool) (a : Act) (w : World),
   (∀ j oj, ops[j]? = some oj → j ≠ i → l.getD j true = false → (∀ e ∈ oj.after, Region.binds .any e = true → e.on ≠ i) → oi.apart ops oj = true) →
   i ∈ Region.ready .any ops l → YieldsIf P ops S1 oi v a → (l.getD tl false = false → S0 w) → S1 w →
   wpTill P ops Q S0 S1 tl n (l.setIfInBounds i true) (a.put oi.dst v) w → wpTill P ops Q S0 S1 tl (n + 1) l a w := by
 have hs := Region.noSelect_spec hsel
 intro n
 induction n with
 | zero =>
  intro l a w _ hr hy hS hS1 H
  refine ⟨fun h => (by rw [h] at hr; cases hr), fun j hj => ?_⟩
  by_cases hji : j = i
  ·subst hji
   exact hy.wpOp hi hS1 ⟨⟨hS1, fun e => hS (by rwa [getD_set_other _ (Ne.symm htl)] at e)⟩, H⟩
  ·have := ready_mono hj hji
   rw [H.1] at this
   cases this
 | succ n ih =>
  intro l a w hfree hr hy hS hS1 H
  refine ⟨fun h => (by rw [h] at hr; cases hr), fun j hj => ?_⟩
  by_cases hji : j = i
  ·subst hji
   exact hy.wpOp hi hS1 ⟨⟨hS1, fun e => hS (by rwa [getD_set_other _ (Ne.symm htl)] at e)⟩, H⟩
  ·have h1 := H.2 j (ready_mono hj hji)
   obtain ⟨hjun, oj, hoj, hall⟩ := mem_ready.1 hj
   have hnot := unlisted_of_ready (j := j) hr hall
   have h2 := wpOp_putIf hoj (hfree j oj hoj hji hjun hnot) (fun cs b => hs i oi cs b hi) (fun cs b => hs j oj cs b hoj) (fun c a w h => (hQ _ _ _ h).elim) hy h1
   have hl' : (l.setIfInBounds j true).getD tl false = false → ((l.setIfInBounds i true).setIfInBounds j true).getD tl false = false := by
    intro e
    rw [Array.setIfInBounds_comm _ _ (Ne.symm hji), getD_set_other _ (Ne.symm htl)]
    exact e
   refine wpOp_mono (fun a' w' h3 => ⟨⟨h3.2.1.1, fun e => h3.2.1.2 (hl' e)⟩, ih (l.setIfInBounds j true) a' w' ?_ (ready_mono hr (Ne.symm hji)) h3.1 (fun e => h3.2.1.2 (hl' e)) h3.2.1.1 ?_⟩) h2
   ·intro k ok hk hki hun hno
    refine hfree k ok hk hki ?_ hno
    by_cases hjk : j = k
    ·subst hjk; exact hjun
    ·rw [getD_set_ne true hjk] at hun; exact hun
   ·rw [Array.setIfInBounds_comm _ _ hji]
    exact h3.2.2
end
variable {S : Side} {P : Program} {L : List Nat} {w0 : World} {pr : Prot} {PN : List (Nat × Blk)} {NM : List Nat}
def post (S : Side) (L : List Nat) (w0 : World) (pr : Prot) (PN : List (Nat × Blk)) (NM : List Nat) (Q : Ex × Array Value × St S.E → Prop) : Exit → Act → World → Prop
 | .normal, a, w => a.defers = [] ∧ ∃ s, Q (.norm, a.tmps, s) ∧ Rel S L w0 pr PN NM s w
 | .ret, a, w => a.defers = [] ∧ ∃ s, Q (.ret, a.tmps, s) ∧ Rel S L w0 pr PN NM s w
 | .exit id, a, w => a.defers = [] ∧ ∃ s, Q (.brk id, a.tmps, s) ∧ Rel S L w0 pr PN NM s w
 | _, _, _ => False
def CallOK (S : Side) (P : Program) (callT : Prot → FuncId → Array Value → St S.E → Tree (Value × St S.E)) : Prop :=
 ∀ L w0 pr PN NM f args s w Q, (callT pr f args s).sat Q → Rel S L w0 pr PN NM s w → Calls P f args w fun e w' => ∃ v s', e = .returned v ∧ Q (v, s') ∧ Rel S L w0 pr PN NM s' w'
variable {callT : Prot → FuncId → Array Value → St S.E → Tree (Value × St S.E)}
theorem opT_sound (hc : CallOK S P callT) {o : Oper} {t : Array Value} {s : St S.E} {w : World} {Q : Value × St S.E → Prop} {Qx : Exit → Act → World → Prop} (h : (opT P callT pr o t s).sat Q) (hr : Rel S L w0 pr PN NM s w) :
  o.wp P ⟨t, []⟩ w (fun a w' => ∃ v s', a = ⟨putT t o.dst v, []⟩ ∧ Q (v, s') ∧ Rel S L w0 pr PN NM s' w') Qx := by
 unfold opT at h
 unfold Oper.wp
 split at h
 ·rename_i v r cs hsp
  obtain ⟨h1, h2⟩ := sat_asked h
  rw [show (⟨t, []⟩ : Act).eval = evalT t from rfl, special_sound hsp h1 w]
  exact ⟨v, _, put_act _ _ _, h2, hr.orc r⟩
 ·obtain ⟨a, w', s', e1, e2, e3⟩ := semT_sound P (L := L) (w0 := w0) (pr := pr) (PN := PN) (NM := NM) _ _ s w (sat_bind _ _ _ h) hr
  rw [show (⟨t, []⟩ : Act).eval = evalT t from rfl, e1]
  cases a with
  | value v => exact ⟨v, s', put_act _ _ _, e2, e3⟩
  | skip => exact ⟨undef, s', put_act _ _ _, e2, e3⟩
  | enter f args =>
   refine (hc L w0 pr PN NM f args s' w' _ e2 e3).mono ?_
   rintro e w2 ⟨v, s2, rfl, h1, h2⟩
   exact ⟨v, s2, put_act _ _ _, h1, h2⟩
  | _ => exact e2.elim
theorem opsT_sound (hc : CallOK S P callT) {ops : Array Oper} {Q : Array Value × St S.E → Prop} {Qx : Exit → Act → World → Prop} (hQ : ∀ t s w, Q (t, s) → Rel S L w0 pr PN NM s w → Qx .normal ⟨t, []⟩ w) :
  ∀ (is : List Nat) (t : Array Value) (s : St S.E) (w : World), (opsT P callT pr ops is t s).sat Q → Rel S L w0 pr PN NM s w → wpOps P ops Qx is ⟨t, []⟩ w := by
 intro is
 induction is with
 | nil => exact fun t s w h hr => hQ _ _ _ h hr
 | cons i is ih =>
  intro t s w h hr
  unfold opsT at h
  unfold wpOps
  split at h
  ·exact h.elim
  ·rename_i o ho
   have run : ∀ s, Rel S L w0 pr PN NM s w → ((opT P callT pr o t s).bind fun x => opsT P callT pr ops is (putT t o.dst x.1) x.2).sat Q → o.wp P ⟨t, []⟩ w (wpOps P ops Qx is) Qx := by
    intro s hr h
    refine Oper.wp_mono ?_ (opT_sound hc (sat_bind _ _ _ h) hr)
    rintro a' w' ⟨v, s', rfl, h1, h2⟩
    exact ih _ _ _ h1 h2
   simp only [ho]
   obtain ⟨r, ⟨hb, h⟩ | ⟨hb, h⟩⟩ := sat_guarded h
   ·simp only [hb, if_true]
    exact .inl (run _ (hr.orc r) h)
   ·simp only [hb, Bool.false_eq_true, if_false]
    rw [put_act]
    exact ih _ _ _ h (hr.orc r)
theorem holds_pick {w : World} {hp : List Blk} (h : Holds w hp) (is : List Nat) : Holds w (pickB is hp) := by
 intro x hx
 obtain ⟨i, _, hi⟩ := List.mem_filterMap.1 hx
 exact h x (List.mem_of_getElem? hi)
def places (hp : List Blk) (is : List Nat) : List (Nat × Blk) := is.filterMap fun i => (hp[i]?).map fun x => (i, x)
theorem mem_places {hp : List Blk} {is : List Nat} {q : Nat × Blk} : q ∈ places hp is ↔ q.1 ∈ is ∧ hp[q.1]? = some q.2 := by
 unfold places
 rw [List.mem_filterMap]
 constructor
 ·rintro ⟨i, hi, h⟩
  cases hx : hp[i]? with
  | none => rw [hx] at h; cases h
  | some x =>
   rw [hx] at h
   cases h
   exact ⟨hi, hx⟩
 ·rintro ⟨h1, h2⟩
  exact ⟨q.1, h1, by rw [h2]; rfl⟩
theorem has_join {pr : Prot} {n : Nat} {is : List Nat} {p : Nat} : (pr.join n is).has p = true ↔ pr.has p = true ∨ p < n ∨ p ∈ is := by
 unfold Prot.has Prot.join
 simp only [Bool.or_eq_true, Nat.blt_eq, List.any_eq_true, List.mem_append]
 constructor
 ·rintro (h | ⟨x, h | h, e⟩)
  ·rcases Nat.lt_or_ge p pr.n with h1 | h1
   ·exact .inl (.inl h1)
   ·exact .inr (.inl (by omega))
  ·exact .inl (.inr ⟨x, h, e⟩)
  ·exact .inr (.inr (by rw [Nat.eq_of_beq_eq_true e]; exact h))
 ·rintro ((h | ⟨x, h, e⟩) | h | h)
  ·exact .inl (by omega)
  ·exact .inr ⟨x, .inl h, e⟩
  ·exact .inl (by omega)
  ·exact .inr ⟨p, .inr h, Nat.beq_refl p⟩
theorem spineT_sound (hc : CallOK S P callT) {ops : Array Oper} {hp0 : List Blk} {tl : Nat} {is : List Nat} {Q : Array Value × St S.E → Prop} {Qx : Exit → Act → World → Prop} {i n : Nat} {l : Array Bool} {t : Array Value} {s : St S.E} {w : World}
  {k : Array Bool → Array Value → St S.E → Tree (Array Value × St S.E)} (hNM : NM = hp0.map (·.b)) (hi : i ∈ Region.ready .any ops l) (h : (spineT P callT pr ops hp0 tl is i l t s k).sat Q) (hr : Rel S L w0 pr PN NM s w) (hS1 : Holds w (pickB is hp0)) (hS : l.getD tl false = false → Holds w hp0)
  (ih : ∀ l t s w, (k l t s).sat Q → Rel S L w0 pr PN NM s w → Holds w (pickB is hp0) → (l.getD tl false = false → Holds w hp0) → wpTill P ops Qx (Holds · hp0) (Holds · (pickB is hp0)) tl n l ⟨t, []⟩ w) :
  wpOp P ops Qx i (fun a' w' => (Holds w' (pickB is hp0) ∧ ((l.setIfInBounds i true).getD tl false = false → Holds w' hp0)) ∧ wpTill P ops Qx (Holds · hp0) (Holds · (pickB is hp0)) tl n (l.setIfInBounds i true) a' w') ⟨t, []⟩ w := by
 have hl : (l.setIfInBounds i true).getD tl false = false → l.getD tl false = false := by
  intro ht
  rcases Nat.decEq i tl with hne | heq
  ·rwa [getD_set_other _ hne] at ht
  ·subst heq
   have h0 := (mem_ready.1 hi).1
   rcases Nat.lt_or_ge i l.size with h' | h'
   ·simp [h'] at ht
   ·simp [Array.getElem?_eq_none h'] at h0
 unfold spineT at h
 unfold wpOp
 split at h
 ·exact h.elim
 ·rename_i o ho
  simp only [ho]
  obtain ⟨r0, ⟨hb, h⟩ | ⟨hb, h⟩⟩ := sat_guarded h
  ·simp only [hb, if_true]
   left
   have hmS1 : ∀ q ∈ places hp0 is, q.2.holds w := fun q hq => by
    obtain ⟨h1, h2⟩ := mem_places.1 hq
    exact hS1 q.2 (List.mem_filterMap.2 ⟨q.1, h1, h2⟩)
   have back1 : ∀ {w' : World}, (∀ q ∈ places hp0 is, q.2.holds w') → Holds w' (pickB is hp0) := by
    intro w' hh x hx
    obtain ⟨j, hj, hx⟩ := List.mem_filterMap.1 hx
    exact hh (j, x) (mem_places.2 ⟨hj, hx⟩)
   cases ht : (l.setIfInBounds i true).getD tl false
   ·simp only [ht] at h
    have hr2 : Rel S L w0 (pr.join hp0.length is) (PN ++ places hp0 (List.range hp0.length)) NM { s with orc := r0 } w := by
     refine (hr.orc r0).more hNM (fun p hp => has_join.2 (.inl hp)) fun q hq => ?_
     rcases List.mem_append.1 hq with h1 | h1
     ·exact .inl h1
     ·obtain ⟨h2, h3⟩ := mem_places.1 h1
      exact .inr ⟨has_join.2 (.inr (.inl (List.mem_range.1 h2))), h3, hS (hl ht) q.2 (List.mem_of_getElem? h3)⟩
    refine Oper.wp_mono ?_ (opT_sound hc (sat_bind _ _ _ h) hr2)
    rintro a' w' ⟨v, s', rfl, h1, h2⟩
    have h3 := h2.less hr (List.prefix_refl _) fun q hq => List.mem_append_left _ hq
    have hS' : Holds w' hp0 := by
     intro x hx
     obtain ⟨j, hj⟩ := List.mem_iff_getElem?.1 hx
     exact h2.pnw (j, x) (List.mem_append_right _ (mem_places.2 ⟨List.mem_range.2 (List.getElem?_eq_some_iff.1 hj).1, hj⟩))
    exact ⟨⟨holds_pick hS' is, fun _ => hS'⟩, ih _ _ _ _ h1 h3 (holds_pick hS' is) fun _ => hS'⟩
   ·simp only [ht] at h
    have hr2 : Rel S L w0 (pr.join 0 is) (PN ++ places hp0 is) NM { s with orc := r0 } w := by
     refine (hr.orc r0).more hNM (fun p hp => has_join.2 (.inl hp)) fun q hq => ?_
     rcases List.mem_append.1 hq with h1 | h1
     ·exact .inl h1
     ·obtain ⟨h2, h3⟩ := mem_places.1 h1
      exact .inr ⟨has_join.2 (.inr (.inr h2)), h3, hmS1 q h1⟩
    refine Oper.wp_mono ?_ (opT_sound hc (sat_bind _ _ _ h) hr2)
    rintro a' w' ⟨v, s', rfl, h1, h2⟩
    have h3 := h2.less hr (List.prefix_refl _) fun q hq => List.mem_append_left _ hq
    have hS1' : Holds w' (pickB is hp0) := back1 fun q hq => h2.pnw q (List.mem_append_right _ hq)
    exact ⟨⟨hS1', fun e => (by cases e)⟩, ih _ _ _ _ h1 h3 hS1' fun e => (by rw [ht] at e; cases e)⟩
  ·simp only [hb, Bool.false_eq_true, if_false]
   rw [put_act]
   split at h
   ·exact h.elim
   ·rename_i ht
    exact ⟨⟨hS1, fun _ => hS (hl ht)⟩, ih _ _ _ _ h (hr.orc r0) hS1 fun _ => hS (hl ht)⟩
theorem moveT_sound (hc : CallOK S P callT) {ops : Array Oper} (hsel : Region.noSelect ops = true) {hp0 : List Blk} (hNM : NM = hp0.map (·.b)) {tl : Nat} {is : List Nat} {Q : Array Value × St S.E → Prop} {Qx : Exit → Act → World → Prop} (hQ : ∀ t s w, Q (t, s) → Rel S L w0 pr PN NM s w → Qx .normal ⟨t, []⟩ w) (hP : ∀ c a w, ¬ Qx (.panic c) a w) :
  ∀ (n : Nat) (l : Array Bool) (t : Array Value) (s : St S.E) (w : World), (moveT P callT pr ops hp0 tl is n l t s).sat Q → Rel S L w0 pr PN NM s w → Holds w (pickB is hp0) → (l.getD tl false = false → Holds w hp0) → wpTill P ops Qx (Holds · hp0) (Holds · (pickB is hp0)) tl n l ⟨t, []⟩ w := by
 intro n
 induction n with
 | zero =>
  intro l t s w h hr hS1 hS
  unfold moveT at h
  split at h
  ·rename_i he
   exact ⟨by simpa using he, hQ _ _ _ h hr⟩
  ·exact h.elim
 | succ n ih =>
  intro l t s w h hr hS1 hS
  unfold moveT at h
  split at h
  ·exact h.elim
  ·rename_i m orc horc
   split at h
   ·exact h.elim
   ·rename_i o ho
    split at h
    ·split at h
     ·exact h.elim
     ·rename_i hck
      simp only [Bool.and_eq_true, Bool.not_eq_true', bne_iff_ne, ne_eq] at hck
      obtain ⟨⟨⟨⟨h1, h2⟩, h3⟩, h4⟩, h5⟩ := hck
      have hw : ∀ x, ops[tl]? = some x → x.after.any (fun e => Region.binds .any e && e.on == m / 4) = true := fun x hx => by
       rw [hx] at h5
       exact h5
      have go : ∀ v s', YieldsIf P ops (Holds · hp0) o v ⟨t, []⟩ → Rel S L w0 pr PN NM s' w → (moveT P callT pr ops hp0 tl is n (l.setIfInBounds (m / 4) true) (putT t o.dst v) s').sat Q → wpTill P ops Qx (Holds · hp0) (Holds · (pickB is hp0)) tl (n + 1) l ⟨t, []⟩ w := by
       intro v s' hy hr' h'
       refine till_first ho hsel hP (Ne.symm h2) hw n l _ w (Region.free_spec ho h3) (by simpa using h4) h1 hy (hS h1) hS1 ?_
       rw [put_act]
       exact ih _ _ _ _ h' hr' hS1 fun _ => hS h1
      obtain ⟨r0, ⟨hb, h⟩ | ⟨hb, h⟩⟩ := sat_guarded h
      ·split at h
       ·exact h.elim
       ·rename_i v r ps cs hf
        obtain ⟨ha, hh⟩ := sat_sames h
        obtain ⟨hh1, hh2⟩ := sat_asked hh
        exact go v _ (.inl ⟨hb, fun w' hw' => fltR_sound hf ha hh1 w' hw'⟩) (hr.orc r) hh2
      ·exact go undef _ (.inr ⟨hb, rfl⟩) (hr.orc r0) h
    ·split at h
     ·exact h.elim
     ·rename_i hck
      simp only [Bool.and_eq_true, bne_iff_ne, ne_eq] at hck
      obtain ⟨⟨h2, h3⟩, h4⟩ := hck
      have go : ∀ v s', YieldsIf P ops (Holds · (pickB is hp0)) o v ⟨t, []⟩ → Rel S L w0 pr PN NM s' w → (moveT P callT pr ops hp0 tl is n (l.setIfInBounds (m / 4) true) (putT t o.dst v) s').sat Q → wpTill P ops Qx (Holds · hp0) (Holds · (pickB is hp0)) tl (n + 1) l ⟨t, []⟩ w := by
       intro v s' hy hr' h'
       refine till_first' ho hsel hP (Ne.symm h2) n l _ w (Region.free_spec ho h3) (by simpa using h4) hy hS hS1 ?_
       rw [put_act]
       exact ih _ _ _ _ h' hr' hS1 fun e => hS (by rwa [getD_set_other _ h2] at e)
      obtain ⟨r0, ⟨hb, h⟩ | ⟨hb, h⟩⟩ := sat_guarded h
      ·split at h
       ·exact h.elim
       ·rename_i v r ps cs hf
        obtain ⟨ha, hh⟩ := sat_sames h
        obtain ⟨hh1, hh2⟩ := sat_asked hh
        exact go v _ (.inl ⟨hb, fun w' hw' => fltR_sound hf ha hh1 w' hw'⟩) (hr.orc r) hh2
      ·exact go undef _ (.inr ⟨hb, rfl⟩) (hr.orc r0) h
    ·split at h
     ·rename_i hready
      have hrd : Region.ready .any ops l = [m / 4] := by simpa using hready
      refine ⟨fun h0 => (by rw [hrd] at h0; cases h0), fun i hi => ?_⟩
      have hi' := hi
      rw [hrd] at hi
      simp at hi
      subst hi
      exact spineT_sound hc hNM hi' h (hr.orc orc) hS1 hS fun l t s w => ih l t s w
     ·exact h.elim
    ·split at h
     ·rename_i i j k orc' hready
      refine ⟨fun h0 => (by rw [hready] at h0; cases h0), fun x hx => ?_⟩
      have hx' := hx
      rw [hready] at hx
      simp at hx
      rcases hx with rfl | rfl
      ·exact spineT_sound hc hNM hx' h.1 (hr.orc _) hS1 hS fun l t s w => ih l t s w
      ·exact spineT_sound hc hNM hx' h.2 (hr.orc _) hS1 hS fun l t s w => ih l t s w
     ·exact h.elim
theorem Rel.drew {s : St S.E} {w : World} (h : Rel S L w0 pr PN NM s w) : Rel S L w0 pr PN NM s { w with drawn := w.drawn + 1 } := by
 have ho : Only [] w { w with drawn := w.drawn + 1 } := ⟨rfl, rfl, rfl, Nat.le_refl _, fun _ _ _ => rfl⟩
 refine ⟨⟨h.has.nd, fun x hx => ?_⟩, h.side.imp fun F hf => ⟨S.stable _ _ _ _ _ hf.inv ho (by simp), hf.apart, hf.foot⟩, h.only.trans ⟨rfl, rfl, rfl, Nat.le_refl _, fun _ _ _ => rfl⟩, h.own, h.pre, h.pn, fun q hq => ?_⟩
 ·obtain ⟨rest, hr, he⟩ := h.has.each x hx
  exact ⟨rest, hr, he⟩
 ·obtain ⟨rest, hr, he⟩ := h.pnw q hq
  exact ⟨rest, hr, he⟩
theorem codeT_sound (hm : P.follows .mixedOrders = true) (hc : CallOK S P callT) (rounds : Nat) (c : Code) :
  ∀ (t : Array Value) (s : St S.E) (w : World) (Q : Ex × Array Value × St S.E → Prop), (codeT P callT pr rounds c t s).sat Q → Rel S L w0 pr PN NM s w → c.wp P (post S L w0 pr PN NM Q) ⟨t, []⟩ w := by
 induction c with
 | skip => exact fun t s w Q h hr => wp_skip ⟨rfl, s, h, hr⟩
 | region id ops draw =>
  intro t s w Q h hr
  cases draw with
  | false =>
   exact wp_region (opsT_sound hc (fun t s w h1 h2 => ⟨rfl, s, h1, h2⟩) _ _ _ _ (sat_bind _ _ _ h) hr)
  | true =>
   unfold codeT at h
   split at h
   ·rename_i tl k orc horc hsel
    have hd := hr.drew
    have hr' : Rel S L w0 pr PN (s.hp.map (·.b)) { s with orc := orc.drop k } { w with drawn := w.drawn + 1 } :=
     ⟨hd.has, hd.side.imp fun F hf => ⟨hf.inv, hf.apart, hf.foot⟩, hd.only, hd.own, List.prefix_refl _, fun q hq => ⟨(hd.pn q hq).1, prefix_at hd.pre (hd.pn q hq).2⟩, hd.pnw⟩
    refine wp_region_any hm (wpAny_of_till (S0 := (Holds · s.hp)) (S1 := (Holds · (pickB (orc.take k) s.hp))) (tl := tl) _ _ _ _ ?_)
    exact moveT_sound (PN := PN) (NM := s.hp.map (·.b)) hc hsel rfl (fun t s' w h1 h2 => ⟨rfl, s', h1, h2.less hd hd.pre fun q hq => hq⟩) (fun c a w h => h) _ _ _ _ _ (sat_bind _ _ _ h) hr' (holds_pick hd.has.each _) fun _ => hd.has.each
   ·exact h.elim
 | seq a b iha ihb =>
  intro t s w Q h hr
  refine wp_seq (wp_mono (iha t s w _ (sat_bind _ _ _ h) hr) ?_)
  intro e a' w' hp
  cases e with
  | normal =>
   obtain ⟨h1, s', h2, h3⟩ := hp
   have := ihb a'.tmps s' w' Q h2 h3
   obtain ⟨tm, df⟩ := a'
   cases h1
   exact this
  | ret =>
   obtain ⟨h1, s', h2, h3⟩ := hp
   exact ⟨h1, s', h2, h3⟩
  | exit id =>
   obtain ⟨h1, s', h2, h3⟩ := hp
   exact ⟨h1, s', h2, h3⟩
  | goto l => exact hp
  | panic c => exact hp
  | outgrown => exact hp
 | cond c a b iha ihb =>
  intro t s w Q h hr
  unfold codeT at h
  split at h
  ·rename_i x hx
   obtain ⟨r, h⟩ := sat_tested h
   refine wp_cond hx ?_
   cases x <;> simp only [] at h <;> rw [fixO_same hx] at h
   ·exact ihb _ _ _ _ h (hr.orc r)
   ·exact iha _ _ _ _ h (hr.orc r)
  ·exact h.elim
 | block id b ih =>
  intro t s w Q h hr
  refine wp_block (wp_mono (ih t s w _ (sat_bind _ _ _ h) hr) ?_)
  intro e a' w' hp
  cases e with
  | normal => exact hp
  | ret => exact hp
  | exit id' =>
   obtain ⟨h1, s', h2, h3⟩ := hp
   simp only [Exit.inBlock]
   cases hid : id' == id
   ·simp only [hid] at h2
    have : ¬ id' = id := by simpa using hid
    rw [if_neg this]
    exact ⟨h1, s', h2, h3⟩
   ·simp only [hid] at h2
    have : id' = id := by simpa using hid
    rw [if_pos this]
    exact ⟨h1, s', h2, h3⟩
  | goto l => exact hp
  | panic c => exact hp
  | outgrown => exact hp
 | loop b ih =>
  intro t s w Q h hr
  refine wp_loop_rounds rounds ?_
  have key : ∀ n t s w, (loopT (codeT P callT pr rounds b) n t s).sat Q → Rel S L w0 pr PN NM s w → Code.rounds P b (post S L w0 pr PN NM Q) n ⟨t, []⟩ w := by
   intro n
   induction n with
   | zero => exact fun t s w h _ => h.elim
   | succ n ihn =>
    intro t s w h hr
    rw [rounds_succ]
    refine wp_mono (ih t s w _ (sat_bind _ _ _ h) hr) ?_
    intro e a' w' hp
    cases e with
    | normal =>
     obtain ⟨h1, s', h2, h3⟩ := hp
     have := ihn a'.tmps s' w' h2 h3
     obtain ⟨tm, df⟩ := a'
     cases h1
     exact this
    | ret => exact hp
    | exit id => exact hp
    | goto l => exact hp
    | panic c => exact hp
    | outgrown => exact hp
  exact key rounds t s w h hr
 | exit id => exact fun t s w Q h hr => wp_exit ⟨rfl, s, h, hr⟩
 | scope b ih =>
  intro t s w Q h hr
  refine wp_scope_straight (wp_mono (ih t s w _ h hr) ?_)
  intro e a' w' hp
  cases e <;> exact hp
 | ret => exact fun t s w Q h hr => wp_ret ⟨rfl, s, h, hr⟩
 | _ => exact fun t s w Q h hr => h.elim
structure Ext (S : Side) (P : Program) where
 f : FuncId → Option (Array Value → St S.E → Tree (Value × St S.E))
 ok : ∀ g x, f g = some x → ∀ L w0 pr PN NM args s w Q, (x args s).sat Q → Rel S L w0 pr PN NM s w → Calls P g args w fun e w' => ∃ v s', e = .returned v ∧ Q (v, s') ∧ Rel S L w0 pr PN NM s' w'
theorem bodyT_sound (hm : P.follows .mixedOrders = true) (X : Ext S P) (rounds : Nat) : ∀ n, CallOK S P (bodyT P X.f rounds n) := by
 intro n
 induction n with
 | zero => exact fun L w0 pr PN NM f args s w Q h _ => h.elim
 | succ n ih =>
  intro L w0 pr PN NM f args s w Q h hr
  unfold bodyT at h
  split at h
  ·exact h.elim
  ·rename_i fn hf
   split at h
   ·exact h.elim
   ·rename_i c hb
    have hc : CallOK S P (pickT X.f (bodyT P X.f rounds n)) := by
     intro L w0 pr PN NM g args s w Q h hr
     unfold pickT at h
     split at h
     ·rename_i x hx
      exact X.ok g x hx L w0 pr PN NM args s w Q h hr
     ·exact ih L w0 pr PN NM g args s w Q h hr
    have h' := sat_bind _ _ _ h
    have hcode := codeT_sound hm hc rounds c _ s w _ h' hr
    refine calls_of_wp hf hb (wp_mono hcode ?_)
    intro e a' w' hp
    have fin : ∀ s', (match semR P s'.hp (results fn a'.tmps) s'.orc [] [] with
      | some (v, r, ps, cs) => sames ps (asked cs (.done (v, { s' with orc := r })))
      | none => .fail : Tree (Value × St S.E)).sat Q → Rel S L w0 pr PN NM s' w' → ∃ v, (results fn a'.tmps).run P w' = .ok v w' ∧ ∃ v' s', Ending.returned v = .returned v' ∧ Q (v', s') ∧ Rel S L w0 pr PN NM s' w' := by
     intro s' h2 h3
     split at h2
     ·rename_i v r ps cs hres
      obtain ⟨h4, h5⟩ := sat_sames h2
      obtain ⟨h5, h6⟩ := sat_asked h5
      exact ⟨v, (semR_sound P _ _ _ _ _ _ _ _ _ hres h4 h5).1 w' h3.has.each, v, _, rfl, h6, h3.orc r⟩
     ·exact h2.elim
    cases e with
    | normal =>
     obtain ⟨h1, s', h2, h3⟩ := hp
     exact ⟨h1, fin s' h2 h3⟩
    | ret =>
     obtain ⟨h1, s', h2, h3⟩ := hp
     exact ⟨h1, fin s' h2 h3⟩
    | exit id =>
     obtain ⟨h1, s', h2, h3⟩ := hp
     exact h2.elim
    | _ => exact hp.elim
def check {E : Type} (is : List Nat) (X : Option (Out (Value × St E))) : Option (Value × List (Option Blk) × E × List Prop × List Nat) :=
 match X with
 | some o => some (o.b.1, is.map (o.b.2.hp[·]?), o.b.2.e, o.cs, o.l)
 | none => none
def rights {β : Type} : Option (Out β) → List Nat
 | some o => o.r
 | none => []
def Rel0 (S : Side) (L : List Nat) (w0 : World) (s : St S.E) (w : World) : Prop := Rel S L w0 ⟨0, []⟩ [] [] s w
theorem has_pick {w : World} {hp bl : List Blk} (h : Has w hp) {is : List Nat} (hn : is.Nodup) (hb : is.map (hp[·]?) = bl.map some) : Has w bl := by
 have hlen : is.length = bl.length := by simpa using congrArg List.length hb
 have at_ : ∀ (k : Nat) (x : Blk), bl[k]? = some x → ∃ i, is[k]? = some i ∧ hp[i]? = some x := by
  intro k x hk
  have h1 := congrArg (·[k]?) hb
  simp only [List.getElem?_map, hk, Option.map_some] at h1
  cases hi : is[k]? with
  | none => rw [hi] at h1; cases h1
  | some i =>
   rw [hi] at h1
   simp at h1
   exact ⟨i, rfl, h1⟩
 refine ⟨?_, fun x hx => ?_⟩
 ·refine List.pairwise_iff_getElem.2 fun i j hi hj hij he => ?_
  simp only [List.length_map] at hi hj
  simp only [List.getElem_map] at he
  obtain ⟨a, ha, hpa⟩ := at_ i _ (List.getElem?_eq_getElem hi)
  obtain ⟨b, hb', hpb⟩ := at_ j _ (List.getElem?_eq_getElem hj)
  have e := nodup_at h.nd hpa hpb he
  subst e
  obtain ⟨h1, h2⟩ := List.getElem?_eq_some_iff.1 ha
  obtain ⟨h3, h4⟩ := List.getElem?_eq_some_iff.1 hb'
  have := (List.getElem_inj (xs := is) (h₀ := h1) (h₁ := h3) hn).1 (h2.trans h4.symm)
  omega
 ·obtain ⟨k, hk⟩ := List.mem_iff_getElem?.1 hx
  obtain ⟨i, _, hi⟩ := at_ k x hk
  exact h.each x (List.mem_of_getElem? hi)
theorem rel_pick {s : St S.E} {w : World} {bl : List Blk} (h : Rel0 S L w0 s w) {is : List Nat} (hn : is.Nodup) (hb : is.map (s.hp[·]?) = bl.map some) : Rel0 S L w0 ⟨bl, s.e, []⟩ w := by
 have hm : ∀ x ∈ bl, x ∈ s.hp := by
  intro x hx
  have : some x ∈ is.map (s.hp[·]?) := by rw [hb]; exact List.mem_map.2 ⟨x, hx, rfl⟩
  obtain ⟨i, _, hi⟩ := List.mem_map.1 this
  exact List.mem_of_getElem? hi
 exact ⟨has_pick h.has hn hb, h.side.imp fun F hf => ⟨hf.inv, fun x hx => hf.apart x (hm x hx), hf.foot⟩, h.only, fun x hx => h.own x (hm x hx), List.nil_prefix, by simp, by simp⟩
theorem calls_of_check {X : Ext S P} (hm : P.follows .mixedOrders = true) {rounds n : Nat} {f : FuncId} {args : Array Value} {s : St S.E} {w : World} (is : List Bool → List Nat) (v : List Bool → (Nat → Nat) → Value) (bl : List Bool → (Nat → Nat) → List Blk) (e : List Bool → (Nat → Nat) → S.E) (cs : List Bool → (Nat → Nat) → List Prop)
  (h : ∀ br gs, check (is br) ((bodyT P X.f rounds n ⟨0, []⟩ f args s).close gs br 0) = some (v br gs, (bl br gs).map some, e br gs, cs br gs, rights ((bodyT P X.f rounds n ⟨0, []⟩ f args s).close gs br 0)))
  (hc : ∀ br gs, all (cs br gs)) (hn : ∀ br, (is br).Nodup) (hr : Rel0 S L w0 s w) : Calls P f args w fun en w' => ∃ br gs, en = .returned (v br gs) ∧ Rel0 S L w0 ⟨bl br gs, e br gs, []⟩ w' := by
 refine (bodyT_sound hm X rounds n L w0 ⟨0, []⟩ [] [] f args s w _ (sat_of_out _ (fun x => ∃ br gs, x.1 = v br gs ∧ (is br).map (x.2.hp[·]?) = (bl br gs).map some ∧ x.2.e = e br gs) 0 (fun _ => 0) fun br gs _ => ?_) hr).mono ?_
 ·have h1 := h br gs
  cases hx : (bodyT P X.f rounds n ⟨0, []⟩ f args s).close gs br 0 with
  | none => rw [hx] at h1; cases h1
  | some o =>
   rw [hx] at h1
   simp only [check, rights, Option.some.injEq, Prod.mk.injEq] at h1
   obtain ⟨h1, h2, h3, h4, h5⟩ := h1
   exact ⟨o, rfl, by rw [h4]; exact hc br gs, h5, br, gs, h1, h2, h3⟩
 ·rintro en w' ⟨v', s', rfl, ⟨br, gs, h1, h2, h3⟩, hr'⟩
  refine ⟨br, gs, congrArg Ending.returned h1, ?_⟩
  rw [← h3]
  exact rel_pick hr' (hn br) h2
end Go.Proofs.YtfinmiakbpmjiaaGreat.Ax
namespace Go.Proofs.YtfinmiakbpmjiaaGreat.Ax
open Go Go.RowKit Go.Proofs.YtfinmiakbpmjiaaGreat
theorem mixed : Tryz.prog.follows .mixedOrders = true := by kernel_rfl
def side0 : Side := { E := Unit, I := fun _ _ F => F = [], stable := fun _ _ _ _ _ h _ _ => h }
def ext0 : Ext side0 Tryz.prog := { f := fun _ => none, ok := fun _ _ h => by cases h }
theorem rel0 (w : World) (o : List Nat) : Rel0 side0 [] w ⟨[], (), o⟩ w := ⟨⟨List.nodup_nil, by simp⟩, ⟨[], rfl, by simp, (by intro b hb; cases hb)⟩, .of (Below.refl _ _), by simp, List.nil_prefix, by simp, by simp⟩
theorem below_of_only {w w' : World} (h : Only [] w w') : Below w.heap.size w w' := ⟨h.os, h.tape, h.output, h.size, fun k hk => h.block k hk (by simp)⟩
theorem calls0 {f : FuncId} {args : Array Value} {w : World} (o : List Nat) (v : Value) (cs : List Prop)
  (h : ∀ br gs, check [] ((bodyT Tryz.prog ext0.f 40 30 ⟨0, []⟩ f args ⟨[], (), o⟩).close gs br 0) = some (v, [], (), cs, rights ((bodyT Tryz.prog ext0.f 40 30 ⟨0, []⟩ f args ⟨[], (), o⟩).close gs br 0)))
  (hc : all cs) : Calls Tryz.prog f args w fun e w' => e = .returned v ∧ Below w.heap.size w w' := by
 refine (calls_of_check (X := ext0) (L := []) (w0 := w) mixed (fun _ => []) (fun _ _ => v) (fun _ _ => []) (fun _ _ => ()) (fun _ _ => cs) h (fun _ _ => hc) (fun _ => List.nodup_nil) (rel0 w o)).mono ?_
 rintro e w' ⟨br, gs, rfl, hr⟩
 exact ⟨rfl, below_of_only hr.only⟩
theorem same_any (o v x : Int) (w : World) : Calls Tryz.prog 167 #[.agg #[.int .u64 o, .int .u64 v], .int .u64 x] w fun e w' => e = .returned (.tuple #[.int .u64 x, .bool true]) ∧ Below w.heap.size w w' :=
 calls0 [] _ [] (fun br gs => by kernel_rfl) trivial
theorem lays_any (o v x : Int) (w : World) : Calls Tryz.prog 196 #[.agg #[.int .u64 o, .int .u64 v], .int .u64 x] w fun e w' => e = .returned (.tuple #[.int .u64 v, .bool true]) ∧ Below w.heap.size w w' :=
 calls0 [0] _ [] (fun br gs => by kernel_rfl) trivial
theorem swaps_any (o v x : Nat) (w : World) : Calls Tryz.prog 198 #[.agg #[.int .u64 o, .int .u64 v], .int .u64 x] w fun e w' => e = .returned (.tuple #[.int .u64 ((if x = o then v else x : Nat) : Int), .bool (decide (x = o))]) ∧ Below w.heap.size w w' := by
 by_cases h : x = o
 ·rw [if_pos h, decide_eq_true h]
  exact calls0 [0,0,0] _ [((x : Int) != (o : Int)) = false] (fun br gs => by kernel_rfl) ⟨by simp [h], trivial⟩
 ·rw [if_neg h, decide_eq_false h]
  exact calls0 [0,1] _ [((x : Int) != (o : Int)) = true] (fun br gs => by kernel_rfl) ⟨by simp; omega, trivial⟩
theorem adds_any (o v x : Int) (w : World) : Calls Tryz.prog 267 #[.agg #[.int .u64 o, .int .u64 v], .int .u64 x] w fun e w' => e = .returned (.tuple #[.int .u64 (IntKind.u64.wrap (x + v)), .bool true]) ∧ Below w.heap.size w w' :=
 calls0 [0] _ [] (fun br gs => by kernel_rfl) trivial
structure Mem where
 M : Spot → Nat
 n : Nat
def sideM (c : Cfg) (mb wb : Nat) : Side := { E := Mem, I := fun e w F => F = [mb, wb] ∧ MemAt w mb wb c e.M e.n, stable := fun e w w' L F h k hf => ⟨h.1, h.2.keep k (hf mb (by rw [h.1]; simp)) (hf wb (by rw [h.1]; simp))⟩ }
def upd (M : Spot → Nat) (s : Spot) (v : Nat) : Spot → Nat := fun t => if t = s then v else M t
def spotOf (k o : Int) : Option Spot :=
 match k with
 | 1 => some .tally
 | 2 => some .epoch
 | 3 => some (.pin o.toNat)
 | 4 => some (.status o.toNat)
 | 5 => some (.snapshot o.toNat)
 | 6 => some (.number o.toNat)
 | 7 => some (.retired o.toNat)
 | 8 => some (.key o.toNat)
 | _ => none
theorem spotOf_some {k o : Int} {s : Spot} (h : spotOf k o = some s) (ho : o = (s.of : Int)) : k = s.kind ∧ o = (s.of : Int) := by
 unfold spotOf at h
 split at h <;> cases h <;> exact ⟨rfl, ho⟩
def effect (k : Nat) (o v : Int) (m : Nat) : Option (Nat × Bool × List Prop) :=
 match Nat.beq k 167 with
 | true => some (m, true, [])
 | false => match Nat.beq k 196 with
  | true => some (v.toNat, true, [0 ≤ v])
  | false => match Nat.beq k 198 with
   | true => some (if m = o.toNat then v.toNat else m, decide (m = o.toNat), [0 ≤ o, 0 ≤ v])
   | false => match Nat.beq k 267 with
    | true => some ((m + v.toNat) % 18446744073709551616, true, [0 ≤ v])
    | false => none
theorem effect_ok {k : Nat} {o v : Int} {m nw : Nat} {dn : Bool} {cs : List Prop} (h : effect k o v m = some (nw, dn, cs)) (hc : all cs) (w : World) :
  (Calls Tryz.prog k #[.agg #[.int .u64 o, .int .u64 v], .int .u64 (m : Int)] w fun e w' => e = .returned (.tuple #[.int .u64 (nw : Int), .bool dn]) ∧ Below w.heap.size w w') ∧
   ∀ (rc x : Value) w, (callFunc k #[rc, x]).run Tryz.prog w = .ok (.enter k #[rc, x]) w := by
 unfold effect at h
 cases h1 : Nat.beq k 167
 ·cases h2 : Nat.beq k 196
  ·cases h3 : Nat.beq k 198
   ·cases h4 : Nat.beq k 267
    ·simp only [h1, h2, h3, h4] at h
     cases h
    ·simp only [h1, h2, h3, h4] at h
     obtain rfl := Nat.eq_of_beq_eq_true h4
     cases h
     refine ⟨?_, fun rc x w => by kernel_rfl⟩
     have := adds_any o v (m : Int) w
     have hv : v = (v.toNat : Int) := (Int.toNat_of_nonneg hc.1).symm
     rw [show IntKind.u64.wrap ((m : Int) + v) = (((m + v.toNat) % 18446744073709551616 : Nat) : Int) by rw [hv]; simp [IntKind.wrap, IntKind.bits, IntKind.signed]] at this
     exact this
   ·simp only [h1, h2, h3] at h
    obtain rfl := Nat.eq_of_beq_eq_true h3
    cases h
    have := swaps_any o.toNat v.toNat m w
    rw [Int.toNat_of_nonneg hc.1, Int.toNat_of_nonneg hc.2.1] at this
    exact ⟨this, fun rc x w => by kernel_rfl⟩
  ·simp only [h1, h2] at h
   obtain rfl := Nat.eq_of_beq_eq_true h2
   cases h
   have := lays_any o v m w
   refine ⟨?_, fun rc x w => by kernel_rfl⟩
   rw [Int.toNat_of_nonneg hc.1]
   exact this
 ·simp only [h1] at h
  obtain rfl := Nat.eq_of_beq_eq_true h1
  cases h
  exact ⟨same_any _ _ _ w, fun rc x w => by kernel_rfl⟩
def touchX (c : Cfg) (mb wb : Nat) (args : Array Value) (s : St (sideM c mb wb).E) : Tree (Value × St (sideM c mb wb).E) :=
 match args.toList with
 | [.pointer (some ⟨b, 0, none⟩), .int .i64 kd, .agg cs, .func (.func k) f cp] => match cs.toList, f.toList, cp.toList with
  | [.int .i64 k1, .int .i64 o1], [.agg r], [] => match r.toList, spotOf k1 o1 with
   | [.int .u64 o, .int .u64 v], some sp => match effect k o v (s.e.M sp) with
    | some (nw, dn, ps) => .same b mb (.ask (o1 = (sp.of : Int)) (.ask (sp.ok c) (.ask (s.e.n < 1000000000) (asked ps
     (.done (.agg #[.int .i64 kd, .int .i64 k1, .int .i64 o1, .int .u64 (s.e.M sp : Int), .int .u64 (nw : Int), .bool dn], { s with e := ⟨upd s.e.M sp nw, s.e.n + 1⟩ }))))))
    | none => .fail
   | _, _ => .fail
  | _, _, _ => .fail
 | _ => .fail
def ExtOK (S : Side) (g : FuncId) (x : Array Value → St S.E → Tree (Value × St S.E)) : Prop :=
 ∀ L w0 pr PN NM args s w Q, (x args s).sat Q → Rel S L w0 pr PN NM s w → Calls Tryz.prog g args w fun e w' => ∃ v s', e = .returned v ∧ Q (v, s') ∧ Rel S L w0 pr PN NM s' w'
theorem arr_of {α : Type} {a : Array α} {l : List α} (h : a.toList = l) : a = l.toArray := by rw [← h]
theorem touch_ok (c : Cfg) (mb wb : Nat) : ExtOK (sideM c mb wb) 166 (touchX c mb wb) := by
 intro L w0 pr PN NM args s w Q h hr
 unfold touchX at h
 split at h
 ·rename_i b kd cs k f cp hargs
  split at h
  ·rename_i k1 o1 r hcs hf hcp
   split at h
   ·rename_i o v sp hr1 hsp
    split at h
    ·rename_i nw dn ps he
     obtain ⟨h1, h2, h3, h6, h7⟩ := h
     obtain ⟨h8, h7⟩ := sat_asked h7
     subst h1
     obtain ⟨e1, e2⟩ := spotOf_some hsp h2
     have hE := effect_ok he h8
     rw [arr_of hargs, arr_of hcs, arr_of hf, arr_of hr1, arr_of hcp, e1, e2]
     obtain ⟨F, hfo⟩ := hr.side
     obtain ⟨hF, hmm⟩ := hfo.inv
     subst hF
     have ht := touch_any b wb c s.e.M s.e.n kd sp k (.agg #[.int .u64 o, .int .u64 v]) nw dn w hmm h3 (fun w => (hE w).1) (fun x w => (hE w).2 _ x w) h6
     rw [e1, e2] at h7
     refine ht.mono ?_
     rintro e w' ⟨rfl, hO, hM⟩
     exact ⟨_, _, rfl, h7, hr.turn hfo hO ⟨rfl, hM⟩ fun q hq => ⟨Nat.lt_of_lt_of_le (hfo.foot q hq).1 hO.size, .inl hq⟩⟩
    ·exact h.elim
   ·exact h.elim
  ·exact h.elim
 ·exact h.elim
def pureX {E : Type} (g : List Value → Option (Value × Prop)) (args : Array Value) (s : St E) : Tree (Value × St E) :=
 match g args.toList with
 | some (v, c) => .ask c (.done (v, s))
 | none => .fail
def PureOK (f : FuncId) (g : List Value → Option (Value × Prop)) : Prop := ∀ l v c, g l = some (v, c) → c → ∀ w, Calls Tryz.prog f l.toArray w fun e w' => e = .returned v ∧ Below w.heap.size w w'
theorem pure_ok {S : Side} {f : FuncId} {g : List Value → Option (Value × Prop)} (h : PureOK f g) : ExtOK S f (pureX g) := by
 intro L w0 pr PN NM args s w Q hs hr
 unfold pureX at hs
 split at hs
 ·rename_i v c hg
  have := h _ _ _ hg hs.1 w
  rw [Array.toArray_toList] at this
  refine this.mono ?_
  rintro e w' ⟨rfl, hb⟩
  exact ⟨v, s, rfl, hs.2, hr.below hb⟩
 ·exact hs.elim
abbrev is64 (x : Int) : Prop := 0 ≤ x ∧ x < 18446744073709551616
theorem nat_of {x : Int} (h : is64 x) : x = (x.toNat : Int) ∧ x.toNat < 18446744073709551616 := by
 obtain ⟨h0, h1⟩ := h
 omega
def pUnpack : List Value → Option (Value × Prop)
 | [.int .u64 x] => some (.agg (St.partsV x.toNat), is64 x)
 | _ => none
theorem pUnpack_ok : PureOK 80 pUnpack := by
 intro l v c h hc w
 unfold pUnpack at h
 split at h <;> cases h
 obtain ⟨e, hx⟩ := nat_of hc
 rw [e]
 exact St.Unpack_any _ w hx
def pMove : List Value → Option (Value × Prop)
 | [.int .u64 x, .int .i64 st, .bool b] => some (.int .u64 (St.moveN x.toNat (St.low8 st) b : Int), is64 x)
 | _ => none
theorem pMove_ok : PureOK 179 pMove := by
 intro l v c h hc w
 unfold pMove at h
 split at h <;> cases h
 obtain ⟨e, hx⟩ := nat_of hc
 rw [e]
 exact St.Move_any _ _ _ w hx
def pAny : List Value → Option (Value × Prop)
 | [.int .u64 x, .int .i64 k] => some (.bool (St.anyW x.toNat k), is64 x)
 | _ => none
theorem pAny_ok : PureOK 156 pAny := by
 intro l v c h hc w
 unfold pAny at h
 split at h <;> cases h
 obtain ⟨e, hx⟩ := nat_of hc
 rw [e]
 exact St.Any_any _ _ w hx
def pHas : List Value → Option (Value × Prop)
 | [.int .u64 x, .int .i64 k, .int .i64 s] => some (.bool (St.hasW x.toNat k s), is64 x)
 | _ => none
theorem pHas_ok : PureOK 296 pHas := by
 intro l v c h hc w
 unfold pHas at h
 split at h <;> cases h
 obtain ⟨e, hx⟩ := nat_of hc
 rw [e]
 exact St.Has_any _ _ _ w hx
def pWith : List Value → Option (Value × Prop)
 | [.int .u64 x, .int .i64 k, .int .i64 s] => some (.int .u64 (St.withW x.toNat k s : Int), is64 x)
 | _ => none
theorem pWith_ok : PureOK 304 pWith := by
 intro l v c h hc w
 unfold pWith at h
 split at h <;> cases h
 obtain ⟨e, hx⟩ := nat_of hc
 rw [e]
 exact St.With_any _ _ _ w hx
def pDrop : List Value → Option (Value × Prop)
 | [.int .u64 x, .int .i64 s, .bool g] => some (.int .u64 (St.dropW x.toNat s g : Int), is64 x)
 | _ => none
theorem pDrop_ok : PureOK 301 pDrop := by
 intro l v c h hc w
 unfold pDrop at h
 split at h <;> cases h
 obtain ⟨e, hx⟩ := nat_of hc
 rw [e]
 exact St.Drop_any _ _ _ w hx
def pPack : List Value → Option (Value × Prop)
 | [.agg a] => match a.toList with
  | [.int .i64 g, .int .i64 st, .bool b, .bool ip, .bool op, .int .i64 i, .int .i64 o] => some (.tuple #[.int .u64 (St.wordN g.toNat st.toNat b ip op i.toNat o.toNat : Int), .bool true], St.validS g st i o)
  | _ => none
 | _ => none
theorem pPack_ok : PureOK 283 pPack := by
 intro l v c h hc w
 unfold pPack at h
 split at h
 ·rename_i a
  split at h
  ·rename_i g st b ip op i o ha
   cases h
   obtain ⟨h0, h1, h2, h3, h4, h5, h6, h7⟩ := hc
   have := St.Pack_yes g.toNat st.toNat b ip op i.toNat o.toNat w (by omega) (by omega) (by omega) (by omega)
   rw [Int.toNat_of_nonneg h0, Int.toNat_of_nonneg h2, Int.toNat_of_nonneg h4, Int.toNat_of_nonneg h6] at this
   rw [arr_of ha]
   exact this
  ·cases h
 ·cases h
def pMHas : List Value → Option (Value × Prop)
 | [.int .u64 x, .int .i64 k, .int .i64 s] => some (.bool (Ma.hasW x.toNat k s), is64 x)
 | _ => none
theorem pMHas_ok : PureOK 207 pMHas := by
 intro l v c h hc w
 unfold pMHas at h
 split at h <;> cases h
 obtain ⟨e, hx⟩ := nat_of hc
 rw [e]
 exact Ma.Has_any _ _ _ w hx
def pMWith : List Value → Option (Value × Prop)
 | [.int .u64 x, .int .i64 k, .int .i64 s] => some (.int .u64 (Ma.withW x.toNat k s : Int), is64 x)
 | _ => none
theorem pMWith_ok : PureOK 232 pMWith := by
 intro l v c h hc w
 unfold pMWith at h
 split at h <;> cases h
 obtain ⟨e, hx⟩ := nat_of hc
 rw [e]
 exact Ma.With_any _ _ _ w hx
def pMDrop : List Value → Option (Value × Prop)
 | [.int .u64 x, .int .i64 s] => some (.int .u64 (Ma.dropW x.toNat s : Int), is64 x)
 | _ => none
theorem pMDrop_ok : PureOK 285 pMDrop := by
 intro l v c h hc w
 unfold pMDrop at h
 split at h <;> cases h
 obtain ⟨e, hx⟩ := nat_of hc
 rw [e]
 exact Ma.Drop_any _ _ w hx
def pTUnpack : List Value → Option (Value × Prop)
 | [.int .u64 x] => some (.agg #[.int .u64 ((x.toNat / 16 : Nat) : Int), .int .i64 (((x.toNat % 16 : Nat) : Int) - 1)], is64 x)
 | _ => none
theorem pTUnpack_ok : PureOK 200 pTUnpack := by
 intro l v c h hc w
 unfold pTUnpack at h
 split at h <;> cases h
 rename_i x
 have := Ta.Unpack_any x w hc.1 hc.2
 rw [show x / 16 = ((x.toNat / 16 : Nat) : Int) by have := hc.1; omega, show x % 16 = ((x.toNat % 16 : Nat) : Int) by have := hc.1; omega] at this
 exact this
def pSettled : List Value → Option (Value × Prop)
 | [.int .u64 x] => some (.int .u64 ((x.toNat / 16 * 16 : Nat) : Int), is64 x)
 | _ => none
theorem pSettled_ok : PureOK 287 pSettled := by
 intro l v c h hc w
 unfold pSettled at h
 split at h <;> cases h
 rename_i x
 have := Ta.Settled_any x w hc.1 hc.2
 rw [show x / 16 * 16 = ((x.toNat / 16 * 16 : Nat) : Int) by have := hc.1; omega] at this
 exact this
def pPast : List Value → Option (Value × Prop)
 | [.int .u64 n, .int .u64 s] => some (.bool (Ta.pastB n s), 0 ≤ n)
 | _ => none
theorem pPast_ok : PureOK 281 pPast := by
 intro l v c h hc w
 unfold pPast at h
 split at h <;> cases h
 exact Ta.Past_any _ _ w hc
def nextN (x : Nat) (p : Int) : Nat := (Ta.nextW x p).toNat
theorem nextN_eq (x : Nat) (p : Int) : Ta.nextW x p = (nextN x p : Int) := by
 unfold nextN Ta.nextW Ta.nextB
 split
 ·rename_i h
  simp at h
  omega
 ·rfl
def pNext : List Value → Option (Value × Prop)
 | [.int .u64 x, .int .i64 p] => some (.tuple #[.int .u64 (nextN x.toNat p : Int), .bool (Ta.nextB (x.toNat : Int) p)], is64 x)
 | _ => none
theorem pNext_ok : PureOK 211 pNext := by
 intro l v c h hc w
 unfold pNext at h
 split at h <;> cases h
 obtain ⟨e, hx⟩ := nat_of hc
 rename_i x p
 have := Ta.Next_any x p w hc.1 hc.2
 rw [e, nextN_eq] at this
 rw [e]
 exact this
def pOf : List Value → Option (Value × Prop)
 | [.int .u64 x, .int .i64 n] => some (.tuple #[.int .i64 (Ti.ofS x n), .int .i64 (Ti.ofG x n), .bool (Ti.ofB x n)], is64 x)
 | _ => none
theorem pOf_ok : PureOK 113 pOf := by
 intro l v c h hc w
 unfold pOf at h
 split at h <;> cases h
 exact Ti.Of_any _ _ w hc.1 hc.2
def pSlot : List Value → Option (Value × Prop)
 | [.int .u64 x] => some (.tuple #[.int .i64 (Ti.slotN x), .bool (Ti.slotB x)], is64 x)
 | _ => none
theorem pSlot_ok : PureOK 144 pSlot := by
 intro l v c h hc w
 unfold pSlot at h
 split at h <;> cases h
 exact Ti.Slot_any _ w hc.1 hc.2
def pGen : List Value → Option (Value × Prop)
 | [.int .u64 x] => some (.int .i64 (Ti.genOf x), is64 x)
 | _ => none
theorem pGen_ok : PureOK 145 pGen := by
 intro l v c h hc w
 unfold pGen at h
 split at h <;> cases h
 exact Ti.Gen_any _ w hc.1 hc.2
def makeN (s g : Int) : Nat := (Ti.makeW s g).toNat
theorem makeN_eq (s g : Int) : Ti.makeW s g = (makeN s g : Int) := by
 unfold makeN Ti.makeW Ti.makeB
 split
 ·rename_i h
  simp at h
  omega
 ·rfl
def pMake : List Value → Option (Value × Prop)
 | [.int .i64 s, .int .i64 g] => some (.tuple #[.int .u64 (makeN s g : Int), .bool (Ti.makeB s g)], True)
 | _ => none
theorem pMake_ok : PureOK 254 pMake := by
 intro l v c h hc w
 unfold pMake at h
 split at h <;> cases h
 have := Ti.Make_any ‹Int› ‹Int› w
 rename_i s g
 have := Ti.Make_any s g w
 rw [makeN_eq] at this
 exact this
theorem Config_any (mb wb : Nat) (c : Cfg) (M : Spot → Nat) (n : Nat) (w : World) (hm : MemAt w mb wb c M n) : Calls Tryz.prog 50 #[.pointer (some ⟨mb, 0, none⟩)] w fun e w' => e = .returned c.val ∧ Below w.heap.size w w' := by
 obtain ⟨a, b, d, o, n', e, hb⟩ := hm.box
 unfold memV at hb
 have B1 := blk_alloc hb (.cells #[.int .i64 0, .int .i64 0, .int .i64 0, .int .i64 0, .int .u64 0] 24)
 have m0 := blk_cell B1 0
 have m1 := blk_cell B1 1
 have m2 := blk_cell B1 2
 have m3 := blk_cell B1 3
 have m4 := blk_cell B1 4
 simp at m0 m1 m2 m3 m4
 unfold Cfg.val
 go_enter Tryz.func50, Tryz.ntmps50
 go_wp2
 have B2 := blk_new w (.cells #[.int .i64 c.T, .int .i64 c.S, .int .i64 c.K, .int .i64 c.L, .int .u64 c.Q] 24)
 refine bodyPost_ret (results_cell_row rfl _ _ w.heap.size 24 #[.int .i64 c.T, .int .i64 c.S, .int .i64 c.K, .int .i64 c.L, .int .u64 c.Q] (0, 0) _ rfl B2 Tryz.underlying24 rfl (by kernel_rfl)) rfl ⟨rfl, below_alloc (Below.refl _ _) _⟩
theorem Count_any (mb wb : Nat) (c : Cfg) (M : Spot → Nat) (n : Nat) (w : World) (hm : MemAt w mb wb c M n) : Calls Tryz.prog 61 #[.pointer (some ⟨mb, 0, none⟩)] w fun e w' => e = .returned (.int .i64 (n : Int)) ∧ Below w.heap.size w w' := by
 obtain ⟨a, b, d, o, n', e, hb⟩ := hm.box
 unfold memV at hb
 have m12 := blk_cell hb 12
 simp at m12
 go_enter Tryz.func61, Tryz.ntmps61
 go_wp2
 go_ret
 exact ⟨rfl, Below.refl _ _⟩
def configX (c : Cfg) (mb wb : Nat) (args : Array Value) (s : St (sideM c mb wb).E) : Tree (Value × St (sideM c mb wb).E) :=
 match args.toList with
 | [.pointer (some ⟨b, 0, none⟩)] => .same b mb (.done (c.val, s))
 | _ => .fail
theorem config_ok (c : Cfg) (mb wb : Nat) : ExtOK (sideM c mb wb) 50 (configX c mb wb) := by
 intro L w0 pr PN NM args s w Q h hr
 unfold configX at h
 split at h
 ·rename_i b hargs
  obtain ⟨rfl, h⟩ := h
  rw [arr_of hargs]
  obtain ⟨F, hfo⟩ := hr.side
  refine (Config_any b wb c _ _ w hfo.inv.2).mono ?_
  rintro e w' ⟨rfl, hb⟩
  exact ⟨_, s, rfl, h, hr.below hb⟩
 ·exact h.elim
def countX (c : Cfg) (mb wb : Nat) (args : Array Value) (s : St (sideM c mb wb).E) : Tree (Value × St (sideM c mb wb).E) :=
 match args.toList with
 | [.pointer (some ⟨b, 0, none⟩)] => .same b mb (.done (.int .i64 (s.e.n : Int), s))
 | _ => .fail
theorem count_ok (c : Cfg) (mb wb : Nat) : ExtOK (sideM c mb wb) 61 (countX c mb wb) := by
 intro L w0 pr PN NM args s w Q h hr
 unfold countX at h
 split at h
 ·rename_i b hargs
  obtain ⟨rfl, h⟩ := h
  rw [arr_of hargs]
  obtain ⟨F, hfo⟩ := hr.side
  refine (Count_any b wb c _ _ w hfo.inv.2).mono ?_
  rintro e w' ⟨rfl, hb⟩
  exact ⟨_, s, rfl, h, hr.below hb⟩
 ·exact h.elim
theorem Rel.blk {S : Side} {L : List Nat} {w0 w w' : World} {pr : Prot} {PN : List (Nat × Blk)} {NM : List Nat} {s : St S.E} (h0 : Rel S L w0 pr PN NM s w) (hb : Below w.heap.size w w') {x : Blk} (hx : x.holds w') (h1 : w.heap.size ≤ x.b) (o : List Nat) : Rel S L w0 pr PN NM { s with hp := s.hp ++ [x], orc := o } w' := by
 have h := h0.below hb
 have ho : Only [] w w' := .of hb
 obtain ⟨F, hf⟩ := h0.side
 have hn : ∀ y ∈ s.hp, y.b ≠ x.b := by
  intro y hy e
  have := holds_lt (h0.has.each y hy)
  omega
 refine ⟨⟨?_, fun z hz => ?_⟩, ⟨F, S.stable _ _ _ _ _ hf.inv ho (by simp), fun z hz => ?_, fun b hb => ⟨Nat.lt_of_lt_of_le (hf.foot b hb).1 ho.size, (hf.foot b hb).2⟩⟩, h.only, fun z hz => ?_, ?_, h.pn, h.pnw⟩
 ·rw [List.map_append, List.nodup_append]
  refine ⟨h.has.nd, by simp, fun a ha b hb => ?_⟩
  simp at hb
  subst hb
  obtain ⟨y, hy, rfl⟩ := List.mem_map.1 ha
  exact hn y hy
 rotate_right
 ·simp only [List.map_append]
  exact h.pre.trans (List.prefix_append _ _)
 all_goals
  rcases List.mem_append.1 hz with h3 | h3
 ·exact h.has.each z h3
 ·simp at h3; subst h3; exact hx
 ·exact hf.apart z h3
 ·simp at h3; subst h3; intro hb2; have := (hf.foot _ hb2).1; omega
 ·exact h.own z h3
 ·simp at h3; subst h3; exact .inr (Nat.le_trans h0.size h1)
def mkA (f b : Nat) : Option Addr := match f with
 | 0 => none
 | _ => some ⟨b, 0, none⟩
theorem Others_row (x : Nat) (k s : Int) (w : World) (hx : x < 18446744073709551616) :
  Calls Tryz.prog 209 #[.int .u64 (x : Int), .int .i64 k, .int .i64 s] w fun e w' => ∃ v, e = .returned v ∧ w'.ownsRow w.heap.size 3 1 v (Ma.but s (Ma.upto x k 12)).length ((Ma.but s (Ma.upto x k 12)).map (Value.int .i64)) ∧ Below w.heap.size w w' :=
 callsIn_wide.1 (Ma.Others_in x hx k s w)
def others (x : Nat) (k s : Int) : List Int := Ma.but s (Ma.upto x k 12)
def othersX {E : Type} (args : Array Value) (s : St E) : Tree (Value × St E) :=
 match args.toList with
 | [.int .u64 x, .int .i64 k, .int .i64 j] => .ask (is64 x) (tested (others x.toNat k j).isEmpty s fun b s => match b with
  | true => .fresh fun f => .fresh fun g => .fresh fun cap => .done (.slice (mkA f g) 0 cap, s)
  | false => .fresh fun g => .fresh fun cap => .ask (True) (.done (.slice (some ⟨g, 0, none⟩) (others x.toNat k j).length ((others x.toNat k j).length + cap), { s with hp := s.hp ++ [⟨g, .ints (others x.toNat k j), 3⟩] })))
 | _ => .fail
theorem others_ok {S : Side} : ExtOK S 209 othersX := by
 intro L w0 pr PN NM args s w Q h hr
 unfold othersX at h
 split at h
 ·rename_i x k j hargs
  obtain ⟨hc, h⟩ := h
  obtain ⟨o, h⟩ := sat_tested h
  obtain ⟨e, hx⟩ := nat_of hc
  rw [arr_of hargs, e]
  refine (Others_row _ k j w hx).mono ?_
  rintro en w' ⟨v, rfl, hown, hb⟩
  have hr' := hr.below hb
  cases he : (others x.toNat k j).isEmpty
  ·simp only [he] at h
   rcases hown.2 with ⟨_, h0⟩ | ⟨g, cap, cur, rfl, hg, hcur, h1, h2, h3, h4⟩
   ·have : others x.toNat k j = [] := List.length_eq_zero_iff.1 h0
    rw [this] at he
    cases he
   ·have hcap : (others x.toNat k j).length + (cap - (others x.toNat k j).length) = cap := Nat.add_sub_cancel' h1
    have hh := (h g (cap - (others x.toNat k j).length)).2
    rw [hcap] at hh
    refine ⟨_, _, rfl, hh, hr.blk hb ?_ hg o⟩
    ·refine ⟨(cur.toList.drop (others x.toNat k j).length).toArray, ?_, trivial⟩
     rw [hcur]
     congr 2
     have h5 : cur.toList.take (others x.toNat k j).length = (others x.toNat k j).map (Value.int .i64) := by
      have := h4
      simp only [Nat.mul_one] at this
      exact this
     apply Array.toList_inj.1
     simp only [Cells.arr, Array.toList_append, ← h5, List.take_append_drop]
  ·simp only [he] at h
   have h0 : others x.toNat k j = [] := by simpa using he
   have h0' : (Ma.but j (Ma.upto x.toNat k 12)).length = 0 := by rw [show Ma.but j (Ma.upto x.toNat k 12) = [] from h0]; rfl
   rcases hown.2 with ⟨rfl, _⟩ | ⟨g, cap, cur, rfl, _⟩
   ·exact ⟨_, _, rfl, h 0 0 0, hr'.orc o⟩
   ·rw [h0']
    exact ⟨_, _, rfl, h 1 g cap, hr'.orc o⟩
 ·exact h.elim
def layR : Go.Shelf.Ren := ⟨fun x => match x with | 15 => 146 | n => n, fun x => match x with | 22 => 58 | n => n, fun n => n⟩
theorem layC : Lays2.n15 Tryz.prog layR := {
 mixed := mixed
 f15 := by kernel_rfl
 t3 := by kernel_rfl
 a3 := fun w => by kernel_rfl
 z3 := fun w => by kernel_rfl
 v3 := fun w => by kernel_rfl
 t4 := by kernel_rfl
 a4 := fun w => by kernel_rfl
 z4 := fun w => by kernel_rfl
 v4 := fun w => by kernel_rfl
 t22 := by kernel_rfl
 a22 := fun w => by kernel_rfl
 z22 := fun w => by kernel_rfl
 v22 := fun w => by kernel_rfl
 i3 := by kernel_rfl }
theorem Clone_row (b off n c : Nat) (zs : List Int) (w : World) (hz : n ≤ zs.length) (hbig : n * 8 ≤ 140737488355328) (hc : ∀ j, j < zs.length → w.cell? ⟨b, off + j, none⟩ = some (.int .i64 (zs.getD j 0))) :
  Calls Tryz.prog 146 #[.slice (some ⟨b, off, none⟩) n c] w fun e w' => ∃ v', e = .returned v' ∧ w'.ownsRow w.heap.size 3 1 v' n ((zs.take n).map (Value.int .i64)) ∧ v' ≠ .slice none 0 0 ∧ Below w.heap.size w w' :=
 Any.slices_Clone_int layC b off n c zs w hz hbig hc
def asInts : List Value → Option (List Int)
 | [] => some []
 | .int .i64 n :: r => match asInts r with
  | some l => some (n :: l)
  | none => none
 | _ => none
theorem asInts_map {l : List Value} {zs : List Int} (h : asInts l = some zs) : l = zs.map (Value.int .i64) := by
 induction l generalizing zs with
 | nil => cases h; rfl
 | cons v l ih =>
  unfold asInts at h
  split at h
  ·rename_i e; cases e
  ·rename_i n r e
   cases e
   split at h
   ·rename_i l' hl
    cases h
    rw [ih hl]; rfl
   ·cases h
  ·cases h
def cloneX {E : Type} (args : Array Value) (s : St E) : Tree (Value × St E) :=
 match args.toList, s.orc with
 | [.slice (some ⟨b, 0, none⟩) n c], k :: orc => match s.hp[k]? with
  | some ⟨b', .vals a, _⟩ => match asInts a.toList with
   | some zs => match Nat.beq n zs.length, Nat.beq n 0, Nat.ble n 1000 with
    | true, false, true => .same b b' (.fresh fun g => .fresh fun cap => .done (.slice (some ⟨g, 0, none⟩) zs.length cap, { s with hp := s.hp ++ [⟨g, .vals a, 3⟩], orc := orc }))
    | _, _, _ => .fail
   | none => .fail
  | _ => .fail
 | _, _ => .fail
theorem clone_ok {S : Side} : ExtOK S 146 cloneX := by
 intro L w0 pr PN NM args s w Q h hr
 unfold cloneX at h
 split at h
 ·rename_i b n c k orc hargs horc
  split at h
  ·rename_i b' a ty hk
   split at h
   ·rename_i zs hz
    split at h
    ·rename_i hn hn0 hn1
     obtain ⟨rfl, h⟩ := h
     obtain rfl := Nat.eq_of_beq_eq_true hn
     have hle := Nat.le_of_ble_eq_true hn1
     have ha := asInts_map hz
     have hlen : a.size = zs.length := by rw [← Array.length_toList, ha, List.length_map]
     rw [arr_of hargs]
     refine (Clone_row b 0 zs.length c zs w (Nat.le_refl _) (by omega) ?_).mono ?_
     ·intro j hj
      rw [Nat.zero_add]
      refine cell_of hr.has hk j _ ?_
      show a[j]? = _
      rw [← Array.getElem?_toList, ha, List.getElem?_map, List.getElem?_eq_getElem hj]
      simp [List.getD, List.getElem?_eq_getElem hj]
     ·rintro en w' ⟨v, rfl, hown, _, hb⟩
      have hr' := hr.below hb
      rcases hown.2 with ⟨_, h0⟩ | ⟨g, cap, cur, rfl, hg, hcur, h1, h2, h3, h4⟩
      ·rw [h0] at hn0
       cases hn0
      ·refine ⟨_, _, rfl, h g cap, hr.blk hb ?_ hg orc⟩
       ·refine ⟨(cur.toList.drop zs.length).toArray, ?_, trivial⟩
        rw [hcur]
        congr 2
        have h5 : cur.toList.take zs.length = a.toList := by
         have := h4
         simp only [Nat.mul_one] at this
         rw [this, ha, List.take_length]
        apply Array.toList_inj.1
        simp only [Cells.arr, Array.toList_append, ← h5, List.take_append_drop]
    ·exact h.elim
   ·exact h.elim
  ·exact h.elim
 ·exact h.elim
def table (c : Cfg) (mb wb : Nat) : List (FuncId × (Array Value → St (sideM c mb wb).E → Tree (Value × St (sideM c mb wb).E))) :=
 [(166, touchX c mb wb), (50, configX c mb wb), (61, countX c mb wb), (209, othersX), (146, cloneX), (80, pureX pUnpack), (179, pureX pMove), (156, pureX pAny), (296, pureX pHas), (304, pureX pWith), (301, pureX pDrop), (283, pureX pPack),
  (207, pureX pMHas), (232, pureX pMWith), (285, pureX pMDrop), (200, pureX pTUnpack), (287, pureX pSettled), (281, pureX pPast), (211, pureX pNext), (113, pureX pOf), (144, pureX pSlot), (145, pureX pGen), (254, pureX pMake)]
def look {α : Type} : List (FuncId × α) → FuncId → Option α
 | [], _ => none
 | (g, x) :: l, f => match Nat.beq g f with
  | true => some x
  | false => look l f
theorem look_mem {α : Type} {l : List (FuncId × α)} {f : FuncId} {x : α} (h : look l f = some x) : (f, x) ∈ l := by
 induction l with
 | nil => cases h
 | cons p l ih =>
  obtain ⟨g, y⟩ := p
  unfold look at h
  split at h
  ·rename_i e
   cases h
   rw [Nat.eq_of_beq_eq_true e]
   exact List.mem_cons_self
  ·exact List.mem_cons_of_mem _ (ih h)
theorem table_ok (c : Cfg) (mb wb : Nat) : ∀ p ∈ table c mb wb, ExtOK (sideM c mb wb) p.1 p.2 := by
 simp only [table, List.forall_mem_cons]
 exact ⟨touch_ok c mb wb, config_ok c mb wb, count_ok c mb wb, others_ok, clone_ok, pure_ok pUnpack_ok, pure_ok pMove_ok, pure_ok pAny_ok, pure_ok pHas_ok, pure_ok pWith_ok, pure_ok pDrop_ok, pure_ok pPack_ok, pure_ok pMHas_ok, pure_ok pMWith_ok, pure_ok pMDrop_ok,
  pure_ok pTUnpack_ok, pure_ok pSettled_ok, pure_ok pPast_ok, pure_ok pNext_ok, pure_ok pOf_ok, pure_ok pSlot_ok, pure_ok pGen_ok, pure_ok pMake_ok, by simp⟩
def extM (c : Cfg) (mb wb : Nat) : Ext (sideM c mb wb) Tryz.prog := { f := look (table c mb wb), ok := fun g x h => table_ok c mb wb (g, x) (look_mem h) }
def pt (b : Nat) : Value := .pointer (some ⟨b, 0, none⟩)
def mv (k b : Nat) : Value := .func (.func k) #[pt b] #[]
def vi (n : Int) : Value := .int .i64 n
def vu (n : Nat) : Value := .int .u64 (n : Int)
def thB (c : Cfg) (t : Nat) (id : Int) (step pins does a1 a2 a3 : Value) : Blk :=
 ⟨t, .vals #[vi c.T, vi c.S, vi c.K, vi c.L, .int .u64 c.Q, vi id, step, pins, does, a1, a2, a3], 124⟩
def pinB (p : Nat) (step : Value) (id : Int) (e : Nat) : Blk := ⟨p, .vals #[step, vi id, vu e], 180⟩
def cntB (b : Nat) (v : Int) : Blk := ⟨b, .vals #[vi v], 3⟩
def openB (o : Nat) (step next : Value) (slot : Int) (s q aid : Value) (e : Int) (h n : Nat) : Blk := ⟨o, .vals #[step, next, vi slot, s, q, aid, vi e, vu h, vu n], 203⟩
def nextO (b : Nat) : Value := .func (.func 140) #[] #[pt b]
def helpB (b : Nat) (step : Value) (w : Nat) (s : Value) : Blk := ⟨b, .vals #[step, vu w, s, vu (w / 16), vi (((w % 16 : Nat) : Int) - 1)], 299⟩
def hf (k : Nat) : Value := .func (.func k) #[] #[]
def rowB (b : Nat) (l : List Int) : Blk := ⟨b, .ints l, 3⟩
def enterB (b : Nat) (slot : Int) (s : Value) (h : Nat) (states : Value) (takes done : Bool) (no : Int) (word : Nat) : Blk :=
 ⟨b, .vals #[vi slot, s, vu h, states, .bool takes, .bool done, vi no, vu word], 243⟩
def leaveB (b : Nat) (slot : Int) (s : Value) (state : Int) (looked ended : Bool) : Blk := ⟨b, .vals #[vi slot, s, vi state, .bool looked, .bool ended], 273⟩
def joinB (b : Nat) (slot side by' : Int) (s : Value) (step : Value) (snap : Nat) (result : Int) : Blk := ⟨b, .vals #[vi slot, vi side, vi by', s, step, vu snap, vi result], 315⟩
def ownB (b : Nat) (slot side by' : Int) (s : Value) (looked done : Bool) : Blk := ⟨b, .vals #[vi slot, vi side, vi by', s, .bool looked, .bool done], 322⟩
def ageB (b : Nat) (step next : Value) (other : Int) (number : Nat) (later : Bool) : Blk := ⟨b, .vals #[step, next, vi other, vu number, .bool later], 295⟩
def graceB (b : Nat) (own at' : Int) (retired : Nat) (later : Bool) : Blk := ⟨b, .vals #[vi own, vi at', vu retired, .bool later], 308⟩
def readB (r : Nat) (step : Value) (key slot : Int) (n w enters next other joins owns leaves : Value) (no : Int) : Blk :=
 ⟨r, .vals #[step, vi key, vi slot, n, w, enters, next, other, joins, owns, leaves, vi no], 212⟩
def writeB (r : Nat) (step : Value) (key slot : Int) (n w enters rivals others joins owns leaves : Value) (no : Int) : Blk :=
 ⟨r, .vals #[step, vi key, vi slot, n, w, enters, rivals, others, joins, owns, leaves, vi no], 215⟩
def commitB (x : Nat) (step : Value) (slot : Int) (enters leaves : Value) (e : Int) (h n : Nat) (s w aid : Value) : Blk :=
 ⟨x, .vals #[step, vi slot, enters, leaves, vi e, vu h, vu n, s, w, aid], 219⟩
def abortB (x : Nat) (step : Value) (slot : Int) (enters leaves : Value) (e : Int) (h n : Nat) : Blk :=
 ⟨x, .vals #[step, vi slot, enters, leaves, vi e, vu h, vu n], 222⟩
def sweepB (c : Cfg) (x : Nat) (step next : Value) (thread slot gen : Int) (at' : Value) (clear : Bool) (w r n enters ages waits leaves : Value) (no : Int) : Blk :=
 ⟨x, .vals #[step, next, vi c.T, vi c.S, vi c.K, vi c.L, .int .u64 c.Q, vi thread, vi slot, vi gen, at', .bool clear, w, r, n, enters, ages, waits, leaves, vi no], 227⟩
def ptrB (b : Nat) (v : Value) (t : TypeId) : Blk := ⟨b, .vals #[v], t⟩
def boxB (b : Nat) (a : Array Value) (t : TypeId) : Blk := ⟨b, .vals a, t⟩
def Steps1 (c : Cfg) (mb wb t : Nat) (hp : List Blk) (M : Spot → Nat) (n : Nat) (R : List Blk → (Spot → Nat) → Prop) : Prop :=
 ∀ L w0 w, Rel0 (sideM c mb wb) L w0 ⟨hp, ⟨M, n⟩, []⟩ w → Calls Tryz.prog 60 #[pt t, pt mb] w fun e w' => e = .returned (.bool true) ∧ ∃ hp' M', R hp' M' ∧ Rel0 (sideM c mb wb) L w0 ⟨hp', ⟨M', n + 1⟩, []⟩ w'
noncomputable def runM (c : Cfg) (mb wb : Nat) (f : FuncId) (args : Array Value) (hp : List Blk) (M : Spot → Nat) (n : Nat) (o : List Nat) (br : List Bool) (gs : Nat → Nat) : Option (Out (Value × St (sideM c mb wb).E)) :=
 (bodyT Tryz.prog (extM c mb wb).f 40 30 ⟨0, []⟩ f args ⟨hp, ⟨M, n⟩, o⟩).close gs br 0
theorem steps1_both {c : Cfg} {mb wb t : Nat} {hp : List Blk} {M : Spot → Nat} {n : Nat} {R : List Blk → (Spot → Nat) → Prop} (o : List Nat) (is : List Bool → List Nat) (bl : List Bool → (Nat → Nat) → List Blk) (M' : (Nat → Nat) → Spot → Nat) (cs : (Nat → Nat) → List Prop)
  (h : ∀ br gs, check (is br) (runM c mb wb 60 #[pt t, pt mb] hp M n o br gs) = some (.bool true, (bl br gs).map some, ⟨M' gs, n + 1⟩, cs gs, rights (runM c mb wb 60 #[pt t, pt mb] hp M n o br gs)))
  (hn : ∀ br, (is br).Nodup) (hc : ∀ gs, all (cs gs)) (hR : ∀ br gs, R (bl br gs) (M' gs)) : Steps1 c mb wb t hp M n R := by
 intro L w0 w hr
 refine (calls_of_check (X := extM c mb wb) mixed is (fun _ _ => .bool true) bl (fun _ gs => ⟨M' gs, n + 1⟩) (fun _ => cs) h (fun _ => hc) hn (hr.orc o)).mono ?_
 rintro e w' ⟨br, gs, rfl, hr'⟩
 exact ⟨rfl, _, _, hR br gs, hr'⟩
theorem steps1_of {c : Cfg} {mb wb t : Nat} {hp : List Blk} {M : Spot → Nat} {n : Nat} {R : List Blk → (Spot → Nat) → Prop} (o is : List Nat) (bl : (Nat → Nat) → List Blk) (M' : (Nat → Nat) → Spot → Nat) (cs : (Nat → Nat) → List Prop)
  (h : ∀ br gs, check is (runM c mb wb 60 #[pt t, pt mb] hp M n o br gs) = some (.bool true, (bl gs).map some, ⟨M' gs, n + 1⟩, cs gs, rights (runM c mb wb 60 #[pt t, pt mb] hp M n o br gs)))
  (hn : is.Nodup) (hc : ∀ gs, all (cs gs)) (hR : ∀ gs, R (bl gs) (M' gs)) : Steps1 c mb wb t hp M n R :=
 steps1_both o (fun _ => is) (fun _ => bl) M' cs h (fun _ => hn) hc (fun _ => hR)
def RunsF (c : Cfg) (mb wb : Nat) (f : FuncId) (args : Array Value) (hp : List Blk) (M : Spot → Nat) (n k : Nat) (R : Value → List Blk → (Spot → Nat) → Prop) : Prop :=
 ∀ L w0 w, Rel0 (sideM c mb wb) L w0 ⟨hp, ⟨M, n⟩, []⟩ w → Calls Tryz.prog f args w fun e w' => ∃ v hp' M', e = .returned v ∧ R v hp' M' ∧ Rel0 (sideM c mb wb) L w0 ⟨hp', ⟨M', n + k⟩, []⟩ w'
theorem runsF_both {c : Cfg} {mb wb : Nat} {f : FuncId} {args : Array Value} {hp : List Blk} {M : Spot → Nat} {n k : Nat} {R : Value → List Blk → (Spot → Nat) → Prop} (o : List Nat) (is : List Bool → List Nat) (v : List Bool → (Nat → Nat) → Value) (bl : List Bool → (Nat → Nat) → List Blk) (M' : (Nat → Nat) → Spot → Nat) (cs : (Nat → Nat) → List Prop)
  (h : ∀ br gs, check (is br) (runM c mb wb f args hp M n o br gs) = some (v br gs, (bl br gs).map some, ⟨M' gs, n + k⟩, cs gs, rights (runM c mb wb f args hp M n o br gs)))
  (hn : ∀ br, (is br).Nodup) (hc : ∀ gs, all (cs gs)) (hR : ∀ br gs, R (v br gs) (bl br gs) (M' gs)) : RunsF c mb wb f args hp M n k R := by
 intro L w0 w hr
 refine (calls_of_check (X := extM c mb wb) mixed is v bl (fun _ gs => ⟨M' gs, n + k⟩) (fun _ => cs) h (fun _ => hc) hn (hr.orc o)).mono ?_
 rintro e w' ⟨br, gs, rfl, hr'⟩
 exact ⟨_, _, _, rfl, hR br gs, hr'⟩
theorem runsF_of {c : Cfg} {mb wb : Nat} {f : FuncId} {args : Array Value} {hp : List Blk} {M : Spot → Nat} {n k : Nat} {R : Value → List Blk → (Spot → Nat) → Prop} (o is : List Nat) (v : (Nat → Nat) → Value) (bl : (Nat → Nat) → List Blk) (M' : (Nat → Nat) → Spot → Nat) (cs : (Nat → Nat) → List Prop)
  (h : ∀ br gs, check is (runM c mb wb f args hp M n o br gs) = some (v gs, (bl gs).map some, ⟨M' gs, n + k⟩, cs gs, rights (runM c mb wb f args hp M n o br gs)))
  (hn : is.Nodup) (hc : ∀ gs, all (cs gs)) (hR : ∀ gs, R (v gs) (bl gs) (M' gs)) : RunsF c mb wb f args hp M n k R :=
 runsF_both o (fun _ => is) (fun _ => v) (fun _ => bl) M' cs h (fun _ => hn) hc (fun _ => hR)
def U (n : Nat) : Prop := ((0 : Int) ≤ (n : Int)) ∧ (((n : Nat) : Int) < 18446744073709551616)
def C9 (n : Nat) : Prop := n < 1000000000
def T0 (c : Cfg) (h : Nat) (b : Bool) : Prop := (!Ti.ofB (h : Int) c.S) = b
def T1 (c : Cfg) (h : Nat) (b : Bool) : Prop := (!!Ti.ofB (h : Int) c.S) = b
def Ge (w h : Nat) (b : Bool) : Prop := (((St.numW w 30 32 : Nat) : Int) != Ti.genOf (h : Int)) = b
def Se (w : Nat) (k : Int) (b : Bool) : Prop := (((St.numW w 27 3 : Nat) : Int) == k) = b
def De (w s : Nat) (b : Bool) : Prop := decide (w = s) = b
def Bz (w : Nat) (b : Bool) : Prop := w.testBit 26 = b
def N0 (n : Nat) : Prop := (0 : Int) ≤ (n : Int)
def A3 (c : Cfg) (n : Nat) (x : Int) (f : Nat → Spot) (l : List Prop) : List Prop := (x = ((x.toNat : Nat) : Int)) :: Spot.ok c (f x.toNat) :: C9 n :: l
def Ld (M : Spot → Nat) (x : Spot) : Spot → Nat := upd M x (M x)
def Cs (M : Spot → Nat) (x : Spot) (a b : Nat) : Spot → Nat := upd M x (if M x = a then b else M x)
def En (bl : (Nat → Nat) → List Blk) (mm : (Nat → Nat) → Spot → Nat) : List Blk → (Spot → Nat) → Prop := fun hp' M' => ∃ gs : Nat → Nat, hp' = bl gs ∧ M' = mm gs
def S1 (c : Cfg) (mb wb t : Nat) (M : Spot → Nat) (n : Nat) (hp : List Blk) (bl : (Nat → Nat) → List Blk) (mm : (Nat → Nat) → Spot → Nat) : Prop := Steps1 c mb wb t hp M n (En bl mm)
structure Zk where
 mb : Nat
 wb : Nat
 vp : Value
 a1 : Value
 a2 : Value
 a3 : Value
def S4 (c : Cfg) (t : Nat) (id : Int) (d : Nat) (M : Spot → Nat) (n : Nat) (z : Zk) (ty ph : Nat) (hp : List Blk) (bl : (Nat → Nat) → List Blk) (mm : (Nat → Nat) → Spot → Nat) : Prop :=
 Steps1 c z.mb z.wb t (thB c t id (mv 124 t) z.vp (.iface ty (pt d)) z.a1 z.a2 z.a3 :: hp) M n (En (fun gs => thB c t id (mv ph t) z.vp (.iface ty (pt d)) z.a1 z.a2 z.a3 :: bl gs) mm)
section
variable {c : Cfg} {mb wb t : Nat} {hp : List Blk} {M : Spot → Nat} {n : Nat} {bl : (Nat → Nat) → List Blk} {mm : (Nat → Nat) → Spot → Nat} {cs : List Prop}
theorem s2 (o is : List Nat) (h : (fun (br : List Bool) (gs : Nat → Nat) => (decide is.Nodup, check is (runM c mb wb 60 #[pt t, pt mb] hp M n o br gs))) = fun br gs => (true, some (.bool true, (bl gs).map some, ⟨mm gs, n + 1⟩, cs, rights (runM c mb wb 60 #[pt t, pt mb] hp M n o br gs)))) : all cs → S1 c mb wb t M n hp bl mm :=
 fun hc => by
  have k : ∀ br gs, decide is.Nodup = true ∧ check is (runM c mb wb 60 #[pt t, pt mb] hp M n o br gs) = some (.bool true, (bl gs).map some, ⟨mm gs, n + 1⟩, cs, rights (runM c mb wb 60 #[pt t, pt mb] hp M n o br gs)) := fun br gs => Prod.mk.inj (congrFun (congrFun h br) gs)
  exact steps1_of o is bl mm (fun _ => cs) (fun br gs => (k br gs).2) (of_decide_eq_true (k [] fun _ => 0).1) (fun _ => hc) fun gs => ⟨gs, rfl, rfl⟩
theorem s4 {id : Int} {d : Nat} {z : Zk} {ty ph : Nat} (o is : List Nat) (h : (fun (br : List Bool) (gs : Nat → Nat) => (decide is.Nodup, check is (runM c z.mb z.wb 60 #[pt t, pt z.mb] (thB c t id (mv 124 t) z.vp (.iface ty (pt d)) z.a1 z.a2 z.a3 :: hp) M n o br gs))) = fun br gs => (true, some (.bool true, (thB c t id (mv ph t) z.vp (.iface ty (pt d)) z.a1 z.a2 z.a3 :: bl gs).map some, ⟨mm gs, n + 1⟩, cs, rights (runM c z.mb z.wb 60 #[pt t, pt z.mb] (thB c t id (mv 124 t) z.vp (.iface ty (pt d)) z.a1 z.a2 z.a3 :: hp) M n o br gs)))) : all cs → S4 c t id d M n z ty ph hp bl mm :=
 s2 o is h
end
def Z0 : List Nat := [1,2,2,2,2,15,0,0,4,8,12,2,16,21,24,29,32,36,40,44,48,52,56,2,199,2]
def Z1 : List Nat := [0,0,4,8,12,16,2,20,24,28,32,36,2]
def Z2 : List Nat := [6,8,12,16,20,2,24,30,34,38,40,2,46,50,52,57,2,62,66,69]
def Z3 : List Nat := [1,15,0,0,4,8,12,2,16,21,24,29,32,36,40,44,48,52,56,0]
def Z4 : List Nat := [0,2,0,0,1,3,1,1,15,0,0,4,8,12,2,16,20,2,24,2,28,2,32,2,2,36,2,41,2,44,2,48,2,52,199,2,56,0,2,3]
def Z5 : List Nat := [3,2,4,4,2,2,5,5,5,5,5,5,5,9,0,0,4,5,8,12,16,20,2,25,28,32]
def Z6 : List Nat := [0,2,0,0,1,3,1,1]
def Z7 : List Nat := [0,2,0,0,1,3,1,12,0,0,4,8,12,16,1,24,28,32,36,1,40,21,3,3,3,3,45,4,4,1,0,1]
def Z8 : List Nat := [12,16,1,20,24,28,32,1,37,4,4,9,0,0,4,8,12,4,16,20,24,28,4,32,1,4,4,42,44,49,1,1,1,15,0,0,4,8,12,4,16,20,2,24,2,28,2,32,2,4,36,2,41,2,44,2,48,2,52,199]
def Z9 : List Nat := [48,52,56,2,61,64,0,17,0,0,4,8,12,1,16,3,20,3,24,3,28,3,2,32,3,36,3,40,3,44,3,48,3,2,52,3,57,3,60,199]
def Z10 : List Nat := [3,2,6,6,2,2,7,7,7,7,7,7,7,9,0,0,4,7,8,12,16,20,2,25,28,32]
def Z11 : List Nat := [15,0,0,4,8,12,16,20,24,28,32,36,2,40,45,49]
def Z12 : List Nat := [0,4,8,12,16,1,20,24,28,32]
def Z13 : List Nat := [0,0,4,8,12,2,16,20]
def Z14 : List Nat := [0,0,4,8,12,1,16,20,24,28]
def Z15 : List Nat := [8,12,16,1,20,25,30,32,37,1]
def Z16 : List Nat := [2,28,2,32,2,2,36,2,41,2,44,2,48,2,52,199]
def Z17 : List Nat := [32,3,36,3,40,3,1,44,3,48,3,52,3,56,3,1,61,3,64,199]
def Z18 : List Nat := [40,44,48,52,2,56,60,64,68,2,72,76,80,84,2,89]
def Z19 : List Nat := [40,45,5,5,48,54,56,61,2,2,3,1,2]
def Z20 : List Nat := [13,0,0,4,8,12,16,20,2,24,32,36,40,44,2,29]
def Z21 : List Nat := [2,56,1,1,0,1,7,1,1,7,7,7,6,2,6,0,0,7,4,7,8,5,12,16,20,1,1,0,0,0,1,2]
def Z22 : List Nat := [0,2,0,0,1,3]
def Z23 : List Nat := [1,2,3,3,3,3,199,3]
def Z24 : List Nat := [1,1,2,2,2,3,0,6,0,0,2,4,2,8,4,12,16,20,1,1]
def Z25 : List Nat := [1,199,1,1,0,18,0,0,4,8,12,16,1,20,199,24,3,28,32,36,40,1,44,48,52,56,1,61,5,66,68,73]
def Z26 : List Nat := [14,0,0,4,8,12,16,1,20,199,24,2,36,40,44,48,1,29,3,3,3,3,33,4,4,53]
def Z27 : List Nat := [2,2,19,0,0,4,12,16,20,24,2,28,32,36,40,2,44,48,52,56]
def Z28 : List Nat := [24,28,2,32,36,40,44,2,52,56,60,64,2,49,68,72,2,2,1,2]
def Z29 : List Nat := [1,3,3,3,4,0,4,3,199,5,2,1,13,0,0,4,8,12,16,20,1,24,28,32,36,1,41,7,46,48,53,1]
def Z30 : List Nat := [36,1,40,44,48,52,1,56,60,64]
def Z31 : List Nat := [1,3,1,2,2,2,3,2,5,5,2,2,3,1,2,2,0,0,1,2]
def Z32 : List Nat := [3,3,3,4,4,1,3,3,3,3,3,2,3,199,3,2]
def Z33 : List Nat := [0,0,4,12,16,20,24,1,28,32,36,40,1]
def Z34 : List Nat := [15,0,0,4,8,12,20,24,28,32,1,36,40,44,48,1,17,1,2,2,2,2,53,57,3,3]
def Z35 : List Nat := [3,2,12,0,0,4,8,12,16,2,20,28,32,36,40,2,25,6,6,44]
def Z36 : List Nat := [2,3,4,8,8,8,1,1,1,1,0,0,1]
def Z37 : List Nat := [2,2,2,1,1,8,0,0,4,8,12,1,16,21,24,28]
def Z38 : List Nat := [6,0,0,3,4,3,8,5,12,16,20,2,2]
def Z39 : List Nat := [3,4,4,1,1,5,5,5,5,5,5,5,11,0,0,4,5,8,12,16]
def Z40 : List Nat := [1,1,0,0,1,2]
def Z41 : List Nat := [1,16,0,0,4,8,12,16,1,1,1,1,1,20,24,28,32,1,36,40,45,1,2,2,2,2,49,3,3,53,4,7]
def Z42 : List Nat := [2,2,2,2,3,3,1,13,0,0,4,8,12,16,20,1,24,28,32,36,1,41,6,46,48,53,1,1,6,6,6,5]
def Z43 : List Nat := [1,3,1,2,2,2,2,2,3,3,199,3,3]
def Z44 : List Nat := [1,3,1,2,2,2,2,2,2,2,199,2,2]
def Z45 : List Nat := [2,2,0,0,1,2]
def Z46 : List Nat := [1,37,0,42,44,49,1,1,0,18,0,0,4,8,12,16,1,20,199,24]
def Z47 : List Nat := [3,3,3,4,4,0,2,2,2,2,2,2,199,2,2,2]
def Z48 : List Nat := [40,44,48,52,56,2,61,64,1,2,1,2,3]
def Z49 : List Nat := [32,36,40,44,1,48,56,60,64,68,1,53,72]
def Z50 : List Nat := [3,199,3,1,28,32,2,2,14,0]
def Z51 : List Nat := [0,0,4,8,12,4,16,20,24,28,4,32,0,42,44,49,1,1,1,15,0,0,4,8,12,4,16,20,2,24,2,28,2,32,2,4,36,2,41,2,44,2,48,2,52,199,2,56]
def Z52 : List Nat := [1,5,1,3,0,3,6,0,8,4,14,16,21,1,26,30,33,1,0,0]
def Z53 : List Nat := [1,8,0,0,4,12,16,20,24,1,9,1,2,2,2,2,29,3,3,12]
def Z54 : List Nat := [1,1,2,2,2,3,1,2,2,6,0,0,2,4,2,8,4,12,16,20]
def Z55 : List Nat := [2,1,1,3,1,0,0,1,3,0]
def Z56 : List Nat := [41,44,49,52,2,13]
def Z57 : List Nat := [40,44,48,52,56,2,61,64,0,17,0,0,4,8,12,0,16,2,20,2,24,2,28,2,32,2,36,2,40,2,44,2,48,2,52,2,57,2,60,199]
def Z58 : List Nat := [32,1,37,40,44,48,52,56,3,0,11,0,0,4,3,8,13,16,20,24]
def Z59 : List Nat := [68,1,72,76,80,84,1,88,93,97]
def Z60 : List Nat := [25,3,199,3,0,2,28,32,3,2,14,0,0]
end Go.Proofs.YtfinmiakbpmjiaaGreat.Ax
