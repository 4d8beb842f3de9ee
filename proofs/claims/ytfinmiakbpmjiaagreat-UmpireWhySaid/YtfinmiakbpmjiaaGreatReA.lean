/-
  The recipes over a log of events.
-/
import Derived.Test.YtfinmiakbpmjiaaGreatProg
import Derived.Test.YtfinmiakbpmjiaaGreatKit
import Derived.Below
import Derived.Laws.OwnMore
import Derived.Deep.AppendLies
import Derived.Deep.Draws
import Derived.Lib.Hide
import Derived.IntWalk
set_option linter.unusedSimpArgs false
set_option linter.unusedVariables false
set_option maxRecDepth 100000
namespace Go.Proofs.YtfinmiakbpmjiaaGreat.Re
open Go Go.RowKit Go.Proofs.YtfinmiakbpmjiaaGreat
theorem block_of_add (a : Addr) (n : Nat) : (a.add n).block = a.block := by unfold Addr.add; split <;> rfl
theorem add_of_add (a : Addr) (i j : Nat) : (a.add i).add j = a.add (i + j) := by
 unfold Addr.add
 by_cases hi : i = 0 <;> by_cases hj : j = 0 <;> simp [hi, hj, Nat.add_assoc]
def Reads (w : World) (B size : Nat) (A : Option Addr) (n : Nat) (xs : List Value) : Prop :=
 xs.length = n * size ∧ (0 < n → ∃ ad, A = some ad ∧ ad.block < B ∧ ∀ j u, xs[j]? = some u → w.cell? (ad.add j) = some u)
section
variable {w w' : World} {B B' size n : Nat} {A : Option Addr} {xs : List Value}
theorem Reads.none_ : Reads w B size A 0 [] := ⟨by simp, fun h => absurd h (by omega)⟩
theorem Reads.at_ {k : Nat} (h : Reads w B 1 A n xs) (hk : k < n) : ∃ ad u, A = some ad ∧ ad.block < B ∧ xs[k]? = some u ∧ w.cell? (ad.add k) = some u := by
 obtain ⟨ad, e, hb, hc⟩ := h.2 (by omega)
 have hl : k < xs.length := by have := h.1; omega
 exact ⟨ad, xs[k], e, hb, List.getElem?_eq_getElem hl, hc k _ (List.getElem?_eq_getElem hl)⟩
theorem Reads.keep (h : Reads w B size A n xs) (hk : ∀ p : Addr, p.block < B → w'.cell? p = w.cell? p) : Reads w' B size A n xs :=
 ⟨h.1, fun hn => by
  obtain ⟨ad, e, hb, hc⟩ := h.2 hn
  exact ⟨ad, e, hb, fun j u hu => (hk _ (by rw [block_of_add]; exact hb)).trans (hc j u hu)⟩⟩
theorem Reads.more (h : Reads w B size A n xs) (hB : B ≤ B') : Reads w B' size A n xs :=
 ⟨h.1, fun hn => by
  obtain ⟨ad, e, hb, hc⟩ := h.2 hn
  exact ⟨ad, e, by omega, hc⟩⟩
theorem Reads.below (h : Reads w B size A n xs) (hb : Below B w w') : Reads w' B size A n xs := h.keep fun _ hp => hb.cell hp
theorem Reads.drew (h : Reads w B size A n xs) : Reads w.drew B size A n xs := h
theorem Reads.drewN (h : Reads w B size A n xs) (k : Nat) : Reads (w.drewN k) B size A n xs := h
theorem Reads.alloc (h : Reads w B size A n xs) (hB : B ≤ w.heap.size) (o : Obj) : Reads (w.alloc o) B size A n xs := h.keep fun p hp => World.cell?_alloc_lt w o p (by omega)
theorem Reads.setCell (h : Reads w B size A n xs) {p : Addr} (hB : B ≤ p.block) (u : Value) : Reads (w.setCell p u) B size A n xs :=
 h.keep fun q hq => World.cell?_setCell_other w p q u (fun e => by subst e; omega)
theorem Reads.grown (h : Reads w B size A n xs) {row : Option Nat} (hg : w.grownBy w' row) (hB : B ≤ w.heap.size) (hr : ∀ g, row = some g → B ≤ g) : Reads w' B size A n xs :=
 h.keep fun p hp => World.cell?_of_block (hg.block p.block (by omega) (fun e => by have := hr _ e.symm; omega))
theorem Reads.cut (h : Reads w B size A n xs) {k cap : Nat} (hk : k ≤ n) (hc : n ≤ cap) :
  Reads w B size (if cap = k then A else A.map (·.add (k * size))) (n - k) (xs.drop (k * size)) := by
 refine ⟨by rw [List.length_drop, h.1, Nat.sub_mul], fun hn => ?_⟩
 obtain ⟨ad, rfl, hb, hcell⟩ := h.2 (by omega)
 rw [if_neg (by omega)]
 refine ⟨ad.add (k * size), rfl, by rw [block_of_add]; exact hb, fun j u hu => ?_⟩
 rw [add_of_add]
 exact hcell _ u (by rw [← hu, List.getElem?_drop])
theorem Reads.of_own {base : Nat} {e : TypeId} {c : Nat} (h : w.ownsRow base e size (.slice A n c) n xs) : Reads w w.heap.size size A n xs := by
 refine ⟨h.1, fun hn => ?_⟩
 obtain ⟨g, cap, hv, _, hlt⟩ := h.form hn
 have hA : A = some ⟨g, 0, none⟩ := by injection hv
 subst hA
 exact ⟨_, rfl, hlt, h.cells (g := g) rfl⟩
end
def Ints (w : World) (B : Nat) (k : IntKind) (v : Value) (l : List Int) : Prop :=
 ∃ A c, v = .slice A l.length c ∧ l.length ≤ c ∧ l.length < 1000000 ∧ Reads w B 1 A l.length (l.map (Value.int k)) ∧ ∀ a, A = some a → a.block < B
theorem Ints.below {w w' : World} {B : Nat} {k : IntKind} {v : Value} {l : List Int} (h : Ints w B k v l) (hb : Below B w w') : Ints w' B k v l := by
 obtain ⟨A, c, h1, h2, h3, h4, h5⟩ := h
 exact ⟨A, c, h1, h2, h3, h4.below hb, h5⟩
theorem Ints.more {w : World} {B B' : Nat} {k : IntKind} {v : Value} {l : List Int} (h : Ints w B k v l) (hb : B ≤ B') : Ints w B' k v l := by
 obtain ⟨A, c, h1, h2, h3, h4, h5⟩ := h
 exact ⟨A, c, h1, h2, h3, h4.more hb, fun a ha => Nat.lt_of_lt_of_le (h5 a ha) hb⟩
theorem Ints.lt {w : World} {B : Nat} {k : IntKind} {v : Value} {l : List Int} (h : Ints w B k v l) {g : Nat} (hg : v.ownBlock = some g) : g < B := by
 obtain ⟨A, c, rfl, _, _, _, h5⟩ := h
 cases A with
 | none => simp [Value.ownBlock] at hg
 | some a =>
  have : a.block = g := by simpa [Value.ownBlock] using hg
  rw [← this]; exact h5 a rfl
def inB (l : List Int) (x : Int) : Bool := l.contains x
theorem inB_iff (l : List Int) (x : Int) : inB l x = true ↔ x ∈ l := by unfold inB; simp
theorem inB_take (l : List Int) (x : Int) (k : Nat) (hk : k < l.length) : inB (l.take (k + 1)) x = (inB (l.take k) x || (l[k] == x)) := by
 rw [Bool.eq_iff_iff]
 simp only [inB_iff, Bool.or_eq_true, beq_iff_eq]
 rw [List.take_succ_eq_append_getElem hk, List.mem_append, List.mem_singleton]
 constructor <;> rintro (h | h) <;> first | exact .inl h | exact .inr h.symm
theorem ret_bool {a b : Bool} (h : a = b) : Ending.returned (.bool a) = .returned (.bool b) := by rw [h]
set_option maxHeartbeats 1000000 in
theorem In_any {v : Value} {l : List Int} (x : Int) {w : World} {B : Nat} (h : Ints w B .i64 v l) :
  Calls Tryz.prog 30 #[v, .int .i64 x] w fun e w' => e = .returned (.bool (inB l x)) ∧ w' = w := by
 obtain ⟨A, c, rfl, hc, hl, hr, _⟩ := h
 have HR := Lib.hid hr
 clear hr
 go_enter Tryz.func30, Tryz.ntmps30
 go_wp2
 go_loop [5] (fun i => ∃ k : Nat, k ≤ l.length ∧ i = .int .i64 k ∧ Hid (inB (l.take k) x = false)) (fun i => l.length - (intOf i).toNat)
 case atStart => exact ⟨0, Nat.zero_le _, rfl, Lib.hid rfl⟩
 case round =>
  obtain ⟨k, hk, rfl, hn⟩ := hrel
  by_cases hlt : k < l.length
  ·have H := inB_take l x k hlt
   have HT := Lib.hid H
   clear H
   obtain ⟨ad, u, rfl, _, hu, hcell⟩ := HR.out.at_ hlt
   have hu' : u = .int .i64 l[k] := by
    rw [List.getElem?_map, List.getElem?_eq_getElem hlt] at hu
    simpa using hu.symm
   subst hu'
   clear hu
   by_cases e : l[k] = x
   ·have e1 : (l[k] == x) = true := by simpa using e
    clear e
    go_wp2
    go_ret
    refine ⟨ret_bool ?_, rfl⟩
    have h1 := HT.out
    rw [e1, Bool.or_true] at h1
    rw [inB_iff] at h1
    exact ((inB_iff _ _).2 (List.mem_of_mem_take h1)).symm
   ·have e1 : (l[k] == x) = false := by simpa using e
    clear e
    go_wp2
    go_round
    case rel => exact ⟨k + 1, by omega, by go_num, Lib.hid (by rw [HT.out, hn.out, e1]; rfl)⟩
    case measure => simp [intOf]; omega
  ·go_wp2
   go_ret
   refine ⟨ret_bool ?_, rfl⟩
   have h1 := hn.out
   rw [List.take_of_length_le (by omega)] at h1
   exact h1.symm
set_option maxHeartbeats 1000000 in
theorem has_any {v : Value} {l : List Int} (x : Int) {w : World} {B : Nat} (h : Ints w B .u64 v l) :
  Calls Tryz.prog 52 #[v, .int .u64 x] w fun e w' => e = .returned (.bool (inB l x)) ∧ w' = w := by
 obtain ⟨A, c, rfl, hc, hl, hr, _⟩ := h
 have HR := Lib.hid hr
 clear hr
 go_enter Tryz.func52, Tryz.ntmps52
 go_wp2
 go_loop [5] (fun i => ∃ k : Nat, k ≤ l.length ∧ i = .int .i64 k ∧ Hid (inB (l.take k) x = false)) (fun i => l.length - (intOf i).toNat)
 case atStart => exact ⟨0, Nat.zero_le _, rfl, Lib.hid rfl⟩
 case round =>
  obtain ⟨k, hk, rfl, hn⟩ := hrel
  by_cases hlt : k < l.length
  ·have H := inB_take l x k hlt
   have HT := Lib.hid H
   clear H
   obtain ⟨ad, u, rfl, _, hu, hcell⟩ := HR.out.at_ hlt
   have hu' : u = .int .u64 l[k] := by
    rw [List.getElem?_map, List.getElem?_eq_getElem hlt] at hu
    simpa using hu.symm
   subst hu'
   clear hu
   by_cases e : l[k] = x
   ·have e1 : (l[k] == x) = true := by simpa using e
    clear e
    go_wp2
    go_ret
    refine ⟨ret_bool ?_, rfl⟩
    have h1 := HT.out
    rw [e1, Bool.or_true] at h1
    rw [inB_iff] at h1
    exact ((inB_iff _ _).2 (List.mem_of_mem_take h1)).symm
   ·have e1 : (l[k] == x) = false := by simpa using e
    clear e
    go_wp2
    go_round
    case rel => exact ⟨k + 1, by omega, by go_num, Lib.hid (by rw [HT.out, hn.out, e1]; rfl)⟩
    case measure => simp [intOf]; omega
  ·go_wp2
   go_ret
   refine ⟨ret_bool ?_, rfl⟩
   have h1 := hn.out
   rw [List.take_of_length_le (by omega)] at h1
   exact h1.symm
def comB (a b : List Int) : Bool := a.any fun x => inB b x
theorem comB_iff (a b : List Int) : comB a b = true ↔ ∃ x, x ∈ a ∧ x ∈ b := by
 unfold comB; simp [List.any_eq_true, inB_iff]
theorem comB_take (a b : List Int) (k : Nat) (hk : k < a.length) : comB (a.take (k + 1)) b = (comB (a.take k) b || inB b a[k]) := by
 unfold comB
 rw [List.take_succ_eq_append_getElem hk, List.any_append]
 simp
set_option maxHeartbeats 1000000 in
theorem common_any {v v' : Value} {a b : List Int} {w : World} {B : Nat} (h : Ints w B .i64 v a) (h' : Ints w B .i64 v' b) :
  Calls Tryz.prog 26 #[v, v'] w fun e w' => e = .returned (.bool (comB a b)) ∧ w' = w := by
 have HB := Lib.hid h'
 clear h'
 obtain ⟨A, c, rfl, hc, hl, hr, _⟩ := h
 have HR := Lib.hid hr
 clear hr
 go_enter Tryz.func26, Tryz.ntmps26
 go_wp2
 go_loop [5] (fun i => ∃ k : Nat, k ≤ a.length ∧ i = .int .i64 k ∧ Hid (comB (a.take k) b = false)) (fun i => a.length - (intOf i).toNat)
 case atStart => exact ⟨0, Nat.zero_le _, rfl, Lib.hid rfl⟩
 case round =>
  obtain ⟨k, hk, rfl, hn⟩ := hrel
  by_cases hlt : k < a.length
  ·have H := comB_take a b k hlt
   have HT := Lib.hid H
   clear H
   obtain ⟨ad, u, rfl, _, hu, hcell⟩ := HR.out.at_ hlt
   have hu' : u = .int .i64 a[k] := by
    rw [List.getElem?_map, List.getElem?_eq_getElem hlt] at hu
    simpa using hu.symm
   subst hu'
   clear hu
   cases e : inB b a[k] with
   | true =>
    have E := Lib.hid e
    clear e
    have hI := (In_any a[k] HB.out).mono (R' := fun e w' => e = .returned (.bool true) ∧ w = w') (by rintro e w' ⟨rfl, rfl⟩; rw [E.out]; exact ⟨rfl, rfl⟩)
    go_wp2_with (go_at_call 30; refine hI.mono ?_; rintro e w' ⟨rfl, rfl⟩)
    go_ret
    refine ⟨ret_bool ?_, rfl⟩
    have h1 := HT.out
    rw [E.out, Bool.or_true] at h1
    rw [comB_iff] at h1
    obtain ⟨x, h2, h3⟩ := h1
    exact ((comB_iff _ _).2 ⟨x, List.mem_of_mem_take h2, h3⟩).symm
   | false =>
    have E := Lib.hid e
    clear e
    have hI := (In_any a[k] HB.out).mono (R' := fun e w' => e = .returned (.bool false) ∧ w = w') (by rintro e w' ⟨rfl, rfl⟩; rw [E.out]; exact ⟨rfl, rfl⟩)
    go_wp2_with (go_at_call 30; refine hI.mono ?_; rintro e w' ⟨rfl, rfl⟩)
    go_round
    case rel => exact ⟨k + 1, by omega, by go_num, Lib.hid (by rw [HT.out, hn.out, E.out]; rfl)⟩
    case measure => simp [intOf]; omega
  ·go_wp2
   go_ret
   refine ⟨ret_bool ?_, rfl⟩
   have h1 := hn.out
   rw [List.take_of_length_le (by omega)] at h1
   exact h1.symm
structure Lf where
 bg : Int
 en : Int
 rs : List Int
 ws : List Int
def LifeV (w : World) (B : Nat) (v : Value) (x : Lf) : Prop :=
 ∃ vr vw, v = .agg #[.int .i64 x.bg, .int .i64 x.en, vr, vw] ∧ Ints w B .i64 vr x.rs ∧ Ints w B .i64 vw x.ws
theorem LifeV.below {w w' : World} {B : Nat} {v : Value} {x : Lf} (h : LifeV w B v x) (hb : Below B w w') : LifeV w' B v x := by
 obtain ⟨vr, vw, h1, h2, h3⟩ := h
 exact ⟨vr, vw, h1, h2.below hb, h3.below hb⟩
theorem LifeV.more {w : World} {B B' : Nat} {v : Value} {x : Lf} (h : LifeV w B v x) (hb : B ≤ B') : LifeV w B' v x := by
 obtain ⟨vr, vw, h1, h2, h3⟩ := h
 exact ⟨vr, vw, h1, h2.more hb, h3.more hb⟩
def metB (a b : Lf) : Bool := !(a.en != 0 && decide (a.en < b.bg)) && (b.en == 0 || decide (a.bg ≤ b.en))
set_option maxHeartbeats 1000000 in
theorem Meet_any {v v' : Value} {a b : Lf} {w : World} {B : Nat} (h : LifeV w B v a) (h' : LifeV w B v' b) :
  Calls Tryz.prog 25 #[v, v'] w fun e w' => e = .returned (.bool (metB a b)) ∧ Below w.heap.size w w' := by
 obtain ⟨vr, vw, rfl, ⟨A1, c1, rfl, _, _, _, _⟩, ⟨A2, c2, rfl, _, _, _, _⟩⟩ := h
 obtain ⟨vr', vw', rfl, ⟨A3, c3, rfl, _, _, _, _⟩, ⟨A4, c4, rfl, _, _, _, _⟩⟩ := h'
 obtain ⟨b1, e1, r1, w1⟩ := a
 obtain ⟨b2, e2, r2, w2⟩ := b
 simp only
 have hm : metB ⟨b1, e1, r1, w1⟩ ⟨b2, e2, r2, w2⟩ = (!(e1 != 0 && decide (e1 < b2)) && (e2 == 0 || decide (b1 ≤ e2))) := rfl
 rw [hm]
 clear hm
 cases h1 : (e1 != 0) <;> cases h2 : decide (e1 < b2) <;> cases h3 : (e2 == 0) <;> cases h4 : decide (b1 ≤ e2)
 all_goals
  go_enter Tryz.func25, Tryz.ntmps25
  go_wp2
  go_ret
  exact ⟨rfl, below_alloc (below_alloc (Below.refl _ _) _) _⟩
def cnfB (a b : Lf) : Bool := metB a b && comB a.rs b.ws
set_option maxHeartbeats 1000000 in
theorem Conflict_any {v v' : Value} {a b : Lf} {w : World} (h : LifeV w w.heap.size v a) (h' : LifeV w w.heap.size v' b) :
  Calls Tryz.prog 28 #[v, v'] w fun e w' => e = .returned (.bool (cnfB a b)) ∧ Below w.heap.size w w' := by
 have H1 := Lib.hid h
 have H2 := Lib.hid h'
 obtain ⟨vr, vw, rfl, ⟨A1, c1, rfl, _, _, _, _⟩, ⟨A2, c2, rfl, _, _, _, _⟩⟩ := h
 obtain ⟨vr', vw', rfl, ⟨A3, c3, rfl, _, _, _, _⟩, ⟨A4, c4, rfl, _, _, _, _⟩⟩ := h'
 have hM : ∀ W : World, Below w.heap.size w W → w.heap.size ≤ W.heap.size → Calls Tryz.prog 25 #[.agg #[.int .i64 a.bg, .int .i64 a.en, .slice A1 a.rs.length c1, .slice A2 a.ws.length c2], .agg #[.int .i64 b.bg, .int .i64 b.en, .slice A3 b.rs.length c3, .slice A4 b.ws.length c4]] W fun e w' => e = .returned (.bool (metB a b)) ∧ Below W.heap.size W w' :=
  fun W hb hs => Meet_any ((H1.out.below hb).more hs) ((H2.out.below hb).more hs)
 have hC : ∀ W : World, Below w.heap.size w W → Calls Tryz.prog 26 #[.slice A1 a.rs.length c1, .slice A4 b.ws.length c4] W fun e w' => e = .returned (.bool (comB a.rs b.ws)) ∧ w' = W := by
  intro W hb
  obtain ⟨vr, vw, h1, h2, h3⟩ := H1.out.below hb
  obtain ⟨vr', vw', h4, h5, h6⟩ := H2.out.below hb
  cases h1; cases h4
  exact common_any h2 h6
 have HM := Lib.hid hM
 have HC := Lib.hid hC
 clear hM hC
 unfold cnfB
 cases h1 : metB a b
 ·have E := Lib.hid h1
  clear h1
  go_enter Tryz.func28, Tryz.ntmps28
  go_wp2_with (go_at_call 25; refine (HM.out _ (below_alloc (below_alloc (Below.refl _ _) _) _) (by simp; omega)).mono ?_; rintro e w1 ⟨rfl, hb⟩; rw [E.out])
  go_ret
  exact ⟨rfl, below_then (below_alloc (below_alloc (Below.refl _ _) _) _) hb⟩
 ·have E := Lib.hid h1
  clear h1
  go_enter Tryz.func28, Tryz.ntmps28
  go_wp2_with (first | (go_at_call 25; refine (HM.out _ (below_alloc (below_alloc (Below.refl _ _) _) _) (by simp; omega)).mono ?_; rintro e w1 ⟨rfl, hb⟩; rw [E.out]; obtain ⟨hcell, hfro⟩ := bcell hb) | (go_at_call 26; refine (HC.out _ (below_then (below_alloc (below_alloc (Below.refl _ _) _) _) hb)).mono ?_; rintro e w2 ⟨rfl, rfl⟩))
  go_ret
  exact ⟨rfl, below_then (below_alloc (below_alloc (Below.refl _ _) _) _) hb⟩
theorem info_3 : (Tryz.prog.info? 3).map (fun i => (i.zero, i.size, i.bytes)) = some (some (.int .i64 0), 1, 8) := by kernel_rfl
theorem own_base {w : World} {base : Nat} {e : TypeId} {size n : Nat} {v : Value} {xs : List Value} (h : w.ownsRow base e size v n xs) (k : Nat) (hk : v.ownBlock = some k) : base ≤ k := by
 rcases h.2 with ⟨rfl, _⟩ | ⟨g, cap, cur, rfl, hb, _⟩
 ·simp [Value.ownBlock] at hk
 ·have : g = k := by simpa [Value.ownBlock] using hk
  omega
def Fill (w0 : World) (e : TypeId) (size : Nat) (v : Value) (n : Nat) (xs : List Value) (w : World) : Prop := w.ownsRow w0.heap.size e size v n xs ∧ Below w0.heap.size w0 w
theorem Fill.alloc {w0 w : World} {e : TypeId} {size : Nat} {v : Value} {n : Nat} {xs : List Value} (h : Fill w0 e size v n xs w) (o : Obj) : Fill w0 e size v n xs (w.alloc o) := ⟨h.1.alloc o, below_alloc h.2 o⟩
theorem Fill.far {w0 w w' : World} {e : TypeId} {size : Nat} {v : Value} {n : Nat} {xs : List Value} (h : Fill w0 e size v n xs w) (hb : Below w.heap.size w w') : Fill w0 e size v n xs w' := by
 refine ⟨⟨h.1.1, ?_⟩, below_then h.2 hb⟩
 rcases h.1.2 with h2 | ⟨g, cap, cur, h3, h4, h5, h6⟩
 ·exact .inl h2
 ·refine .inr ⟨g, cap, cur, h3, h4, ?_, h6⟩
  rw [hb.block g]
  ·exact h5
  ·rcases Nat.lt_or_ge g w.heap.size with hlt | hge
   ·exact hlt
   ·rw [Array.getElem?_eq_none hge] at h5; cases h5
theorem wpList_growF {P : Program} {ops : Array Oper} {rest : List Oper} {o : Oper} {a : Act} {Q : Exit → Act → World → Prop} {W : World} (hgd : o.guard = none) (s x : Operand) (t : TypeId)
  (ho : o.op = .call { callee := .builtin .append, args := #[s, x], argTypes := #[t, t] }) (e : TypeId) (size bytes : Nat) (z : Value)
  (ht : P.underlying t = some (.slice e)) (hinfo : (P.info? e).map (fun i => (i.zero, i.size, i.bytes)) = some (some z, size, bytes)) (hzs : z.cells.size = size) (hsz : 0 < size) (hby : bytes ≤ 1000)
  {w0 : World} {v : Value} {n : Nat} {xs : List Value} (hf : Fill w0 e size v n xs W) (hn : n < 1000000) (hs : a.eval s = v) (cs : List Value) (hl : cs.length = size) (h1 : ∀ u ∈ cs, u.oneCell' = true) (c : Nat) (hx : a.eval x = .slice (some ⟨W.heap.size, 0, none⟩) 1 c)
  (h : ∀ g cap w', Fill w0 e size (.slice (some ⟨g, 0, none⟩) (n + 1) cap) (n + 1) (xs ++ cs) w' → (∀ p : Addr, p.block < W.heap.size → v.ownBlock ≠ some p.block → w'.cell? p = W.cell? p) → (v.ownBlock = some g ∨ W.heap.size < g) → W.heap.size ≤ w'.heap.size → wpList P ops Q rest (a.put o.dst (.slice (some ⟨g, 0, none⟩) (n + 1) cap)) w') : wpList P ops Q (o :: rest) a (W.alloc (.cells cs.toArray e)) := by
 obtain ⟨i0, hi, hz0, hz1, hz2⟩ := info_parts hinfo
 have hbs : w0.heap.size ≤ W.heap.size := hf.2.size
 have hby2 : (n + 1) * bytes ≤ 1000000 * 1000 := Nat.mul_le_mul (by omega) hby
 refine wpList_append_lies _ hgd s x t ho w0.heap.size e i0 z size bytes ht hi hz0 hz1 hz2 hzs hsz v n xs hs (hf.1.alloc _) ⟨W.heap.size, 0, none⟩ 1 c cs hx (by omega) (fun j u hu => World.news_of_block (cs := cs.toArray) (heap_alloc_new W _) j u (by simpa using hu)) h1
  (by decide) (by simp only [maxLen]; omega) (by omega) (by simp; omega) _ rfl ?_
 intro g cap w1 hown hgrow hat _
 refine h g cap w1 ⟨hown, (below_alloc hf.2 _).grown hgrow (by simp; omega) (fun k hk => own_base hf.1 k hk)⟩ (fun p hp hne => ?_) (hat.imp id fun e => by rw [e]; simp) (by have := hgrow.size; simp at this; omega)
 rw [World.cell?_of_block (hgrow.block p.block (by simp; omega) (fun e => hne e.symm)), World.cell?_alloc_lt _ _ _ hp]
theorem wpList_grow {P : Program} {ops : Array Oper} {rest : List Oper} {o : Oper} {a : Act} {Q : Exit → Act → World → Prop} {W : World} (hgd : o.guard = none) (s x : Operand) (t : TypeId)
  (ho : o.op = .call { callee := .builtin .append, args := #[s, x], argTypes := #[t, t] }) (e : TypeId) (size bytes : Nat) (z : Value)
  (ht : P.underlying t = some (.slice e)) (hinfo : (P.info? e).map (fun i => (i.zero, i.size, i.bytes)) = some (some z, size, bytes)) (hzs : z.cells.size = size) (hsz : 0 < size) (hby : bytes ≤ 1000)
  {w0 : World} {v : Value} {n : Nat} {xs : List Value} (hf : Fill w0 e size v n xs W) (hn : n < 1000000) (hs : a.eval s = v) (cs : List Value) (hl : cs.length = size) (h1 : ∀ u ∈ cs, u.oneCell' = true) (c : Nat) (hx : a.eval x = .slice (some ⟨W.heap.size, 0, none⟩) 1 c)
  (h : ∀ g cap w', Fill w0 e size (.slice (some ⟨g, 0, none⟩) (n + 1) cap) (n + 1) (xs ++ cs) w' → wpList P ops Q rest (a.put o.dst (.slice (some ⟨g, 0, none⟩) (n + 1) cap)) w') : wpList P ops Q (o :: rest) a (W.alloc (.cells cs.toArray e)) := by
 exact wpList_growF hgd s x t ho e size bytes z ht hinfo hzs hsz hby hf hn hs cs hl h1 c hx fun g cap w' h2 _ _ _ => h g cap w' h2
theorem int_cell {w : World} {B : Nat} {ad : Addr} {κ : IntKind} {l : List Int} (h : Reads w B 1 (some ad) l.length (l.map (Value.int κ))) {k : Nat} (hk : k < l.length) : w.cell? (ad.add k) = some (.int κ l[k]) := by
 obtain ⟨ad', u, e, _, hu, hc⟩ := h.at_ hk
 cases e
 rw [List.getElem?_map, List.getElem?_eq_getElem hk] at hu
 rw [hc]; exact hu.symm
def PutOf (l : List Int) (x : Int) (r : List Int) : Prop := (∀ y, y ∈ r ↔ y ∈ l ∨ y = x) ∧ r.length ≤ l.length + 1
def PutUp (l : List Int) (x : Int) (k : Nat) (laid : Bool) (out : List Int) : Prop := (∀ y, y ∈ out ↔ y ∈ l.take k ∨ (laid = true ∧ y = x)) ∧ out.length = k + laid.toNat
theorem take_mem {l : List Int} {k : Nat} (hk : k < l.length) (y : Int) : y ∈ l.take (k + 1) ↔ y ∈ l.take k ∨ y = l[k] := by
 rw [List.take_succ_eq_append_getElem hk, List.mem_append, List.mem_singleton]
theorem PutUp.one {l : List Int} {x : Int} {k : Nat} {laid : Bool} {out : List Int} (h : PutUp l x k laid out) (hk : k < l.length) : PutUp l x (k + 1) laid (out ++ [l[k]]) := by
 refine ⟨fun y => ?_, by simp [h.2]; omega⟩
 rw [List.mem_append, h.1, take_mem hk, List.mem_singleton]
 constructor
 ·rintro ((h | h) | h)
  ·exact .inl (.inl h)
  ·exact .inr h
  ·exact .inl (.inr h)
 ·rintro ((h | h) | h)
  ·exact .inl (.inl h)
  ·exact .inr h
  ·exact .inl (.inr h)
theorem PutUp.two {l : List Int} {x : Int} {k : Nat} {out : List Int} (h : PutUp l x k false out) (hk : k < l.length) : PutUp l x (k + 1) true (out ++ [x] ++ [l[k]]) := by
 refine ⟨fun y => ?_, by simp [h.2]⟩
 rw [List.mem_append, List.mem_append, h.1, take_mem hk, List.mem_singleton, List.mem_singleton]
 simp only [Bool.false_eq_true, false_and, or_false, true_and]
 constructor
 ·rintro ((h | h) | h)
  ·exact .inl (.inl h)
  ·exact .inr h
  ·exact .inl (.inr h)
 ·rintro ((h | h) | h)
  ·exact .inl (.inl h)
  ·exact .inr h
  ·exact .inl (.inr h)
def Fresh (n : Nat) (v : Value) : Prop := ∀ g, v.ownBlock = some g → n ≤ g
theorem Fresh.nil (n : Nat) : Fresh n (.slice none 0 0) := fun g h => by simp [Value.ownBlock] at h
theorem Fresh.less {n m : Nat} {v : Value} (h : Fresh n v) (hm : m ≤ n) : Fresh m v := fun g hg => Nat.le_trans hm (h g hg)
theorem Ints.of_fill {w0 w : World} {v : Value} {out : List Int} (h : w.ownsRow w0.heap.size 3 1 v out.length (out.map (Value.int .i64))) (hl : out.length < 1000000) : Ints w w.heap.size .i64 v out := by
 have h2 := h.2
 rcases h2 with ⟨rfl, h0⟩ | ⟨g, cap, cur, rfl, hb, hg, hnc, _⟩
 ·exact ⟨none, 0, by rw [h0], by omega, hl, by rw [h0, List.eq_nil_of_length_eq_zero h0]; exact .none_, fun a ha => by cases ha⟩
 ·refine ⟨some ⟨g, 0, none⟩, cap, rfl, hnc, hl, Reads.of_own h, fun a ha => ?_⟩
  cases ha
  rcases Nat.lt_or_ge g w.heap.size with hlt | hge
  ·exact hlt
  ·rw [Array.getElem?_eq_none hge] at hg; cases hg
set_option maxHeartbeats 4000000 in
theorem Put_any {v : Value} {l : List Int} (x : Int) {w : World} (h : Ints w w.heap.size .i64 v l) (h9 : l.length < 999999) :
  Calls Tryz.prog 24 #[v, .int .i64 x] w fun e w' => ∃ v' r, e = .returned v' ∧ Ints w' w'.heap.size .i64 v' r ∧ PutOf l x r ∧ Below w.heap.size w w' ∧ (v' = v ∨ Fresh w.heap.size v') := by
 obtain ⟨i0, hi, hz0, hz1, hz2⟩ := info_parts info_3
 have HV := Lib.hid h
 obtain ⟨A, c, rfl, hc, hl, hr, _⟩ := h
 have HR := Lib.hid hr
 clear hr
 cases hin : inB l x with
 | true =>
  have E := Lib.hid hin
  clear hin
  have hI := (In_any x HV.out).mono (R' := fun e w' => e = .returned (.bool true) ∧ w = w') (by rintro e w' ⟨rfl, rfl⟩; rw [E.out]; exact ⟨rfl, rfl⟩)
  go_enter Tryz.func24, Tryz.ntmps24
  go_wp2_with (go_at_call 30; refine hI.mono ?_; rintro e w' ⟨rfl, rfl⟩)
  go_ret
  refine ⟨_, l, rfl, HV.out, ⟨fun y => ⟨.inl, ?_⟩, by omega⟩, Below.refl _ _, .inl rfl⟩
  rintro (h | rfl)
  ·exact h
  ·exact (inB_iff _ _).1 E.out
 | false =>
  have E := Lib.hid hin
  clear hin
  have hI := (In_any x HV.out).mono (R' := fun e w' => e = .returned (.bool false) ∧ w = w') (by rintro e w' ⟨rfl, rfl⟩; rw [E.out]; exact ⟨rfl, rfl⟩)
  go_enter Tryz.func24, Tryz.ntmps24
  go_wp2_with (go_at_call 30; refine hI.mono ?_; rintro e w' ⟨rfl, rfl⟩)
  go_loopw [5,6,7] (fun o b i wr => ∃ (out : List Int) (laid : Bool) (k : Nat), k ≤ l.length ∧ b = .bool laid ∧ i = .int .i64 k ∧ Hid (PutUp l x k laid out) ∧ Hid (Fill w 3 1 o out.length (out.map (Value.int .i64)) wr)) (fun _ _ i _ => l.length - (intOf i).toNat)
  case atStart => exact ⟨[], false, 0, Nat.zero_le _, rfl, rfl, Lib.hid ⟨by simp, rfl⟩, Lib.hid ⟨World.ownsRow_nil _ _ _ _, Below.refl _ _⟩⟩
  case round =>
   obtain ⟨out, laid, k, hk, rfl, rfl, hp, hf⟩ := hrel
   have hlen : out.length ≤ k + 1 := by
    have h1 := hp.out.2
    have h2 : laid.toNat ≤ 1 := by cases laid <;> decide
    omega
   by_cases hlt : k < l.length
   ·obtain ⟨ad, u, rfl, hbl, hu, hcell⟩ := (HR.out.below hf.out.2).at_ hlt
    have hu' : u = .int .i64 l[k] := by
     rw [List.getElem?_map, List.getElem?_eq_getElem hlt] at hu
     simpa using hu.symm
    subst hu'
    clear hu
    have HB := Lib.hid hbl
    clear hbl
    have HS := Lib.hid hf.out.2.size
    cases laid with
    | true =>
     go_wp2_with (at_builtin; refine wpList_grow rfl (.tmp 32) (.tmp 37) 58 rfl 3 1 8 (.int .i64 0) Tryz.underlying58 info_3 rfl (by decide) (by decide) hf.out (by omega) rfl [.int .i64 l[k]] rfl (by simp [Value.oneCell']) _ rfl ?_; intro g cap w1 hf1)
     go_roundw
     case rel => exact ⟨out ++ [l[k]], true, k + 1, by omega, rfl, by go_num, Lib.hid (hp.out.one hlt), Lib.hid (by simpa using hf1)⟩
     case measure => simp [intOf]; omega
    | false =>
     cases e : decide (x < l[k]) with
     | true =>
      go_wp2_with (first | (at_builtin; refine wpList_grow rfl (.tmp 28) (.tmp 30) 58 rfl 3 1 8 (.int .i64 0) Tryz.underlying58 info_3 rfl (by decide) (by decide) hf.out (by omega) rfl [.int .i64 x] rfl (by simp [Value.oneCell']) _ rfl ?_; intro g cap w1 hf1; have hcell1 := int_cell (HR.out.below hf1.2) hlt) | (at_builtin; refine wpList_grow rfl (.tmp 32) (.tmp 37) 58 rfl 3 1 8 (.int .i64 0) Tryz.underlying58 info_3 rfl (by decide) (by decide) hf1 (by omega) rfl [.int .i64 l[k]] rfl (by simp [Value.oneCell']) _ rfl ?_; intro g2 cap2 w2 hf2))
      go_roundw
      case rel => exact ⟨out ++ [x] ++ [l[k]], true, k + 1, by omega, rfl, by go_num, Lib.hid (hp.out.two hlt), Lib.hid (by simpa using hf2)⟩
      case measure => simp [intOf]; omega
     | false =>
      go_wp2_with (at_builtin; refine wpList_grow rfl (.tmp 32) (.tmp 37) 58 rfl 3 1 8 (.int .i64 0) Tryz.underlying58 info_3 rfl (by decide) (by decide) hf.out (by omega) rfl [.int .i64 l[k]] rfl (by simp [Value.oneCell']) _ rfl ?_; intro g cap w1 hf1)
      go_roundw
      case rel => exact ⟨out ++ [l[k]], false, k + 1, by omega, rfl, by go_num, Lib.hid (hp.out.one hlt), Lib.hid (by simpa using hf1)⟩
      case measure => simp [intOf]; omega
   ·have hkl : k = l.length := by omega
    have HK := Lib.hid hkl
    clear hkl
    cases laid with
    | true =>
     go_wp2
     go_ret
     have h2 := hp.out
     refine ⟨_, out, rfl, Ints.of_fill hf.out.1 (by omega), ⟨fun y => ?_, by omega⟩, hf.out.2, .inr fun g hg => own_base hf.out.1 g hg⟩
     rw [h2.1, List.take_of_length_le (by have := HK.out; omega)]
     simp
    | false =>
     go_wp2_with (at_builtin; refine wpList_grow rfl (.tmp 41) (.tmp 43) 58 rfl 3 1 8 (.int .i64 0) Tryz.underlying58 info_3 rfl (by decide) (by decide) hf.out (by omega) rfl [.int .i64 x] rfl (by simp [Value.oneCell']) _ rfl ?_; intro g cap w1 hf1)
     go_ret
     have h2 := hp.out
     have h3 : out.length = k := by simpa using h2.2
     refine ⟨_, out ++ [x], rfl, Ints.of_fill (w0 := w) (by simpa using hf1.1) (by simp; omega), ⟨fun y => ?_, by simp; omega⟩, hf1.2, .inr fun g hg => own_base hf1.1 g hg⟩
     rw [List.mem_append, h2.1, List.take_of_length_le (by have := HK.out; omega)]
     simp
structure Rv where
 thr : Int
 kd : Int
 h : Int
 k : Int
 e : Int
 ah : Int
 an : Int
 bg : Int
 en : Int
 dn : Bool
def Rv.cs (x : Rv) : List Value := [.int .i64 x.thr, .int .i64 x.kd, .int .u64 x.h, .int .i64 x.k, .int .i64 x.e, .int .u64 x.ah, .int .u64 x.an, .int .i64 x.bg, .int .i64 x.en, .bool x.dn]
theorem flat_at {α β : Type} (f : α → List β) (n : Nat) (hf : ∀ x, (f x).length = n) : ∀ (l : List α) (k : Nat) (hk : k < l.length) (j : Nat), j < n → (l.flatMap f)[k * n + j]? = (f l[k])[j]?
 | [], k, hk, _, _ => by simp at hk
 | x :: l, 0, _, j, hj => by
  rw [List.flatMap_cons, List.getElem?_append_left (by rw [hf]; omega)]
  simp
 | x :: l, k + 1, hk, j, hj => by
  rw [List.flatMap_cons, List.getElem?_append_right (by rw [hf, Nat.succ_mul]; omega), hf]
  have e : (k + 1) * n + j - n = k * n + j := by rw [Nat.succ_mul]; omega
  rw [e]
  exact flat_at f n hf l k (by simpa using hk) j hj
theorem flat_len {α β : Type} (f : α → List β) (n : Nat) (hf : ∀ x, (f x).length = n) (l : List α) : (l.flatMap f).length = l.length * n := by
 induction l with
 | nil => simp
 | cons x l ih => simp [hf, ih, Nat.succ_mul]; omega
def Evs (w : World) (B : Nat) (v : Value) (l : List Rv) : Prop :=
 ∃ A c, v = .slice A l.length c ∧ l.length ≤ c ∧ l.length < 10000 ∧ Reads w B 10 A l.length (l.flatMap Rv.cs)
theorem Evs.below {w w' : World} {B : Nat} {v : Value} {l : List Rv} (h : Evs w B v l) (hb : Below B w w') : Evs w' B v l := by
 obtain ⟨A, c, h1, h2, h3, h4⟩ := h
 exact ⟨A, c, h1, h2, h3, h4.below hb⟩
theorem Evs.more {w : World} {B B' : Nat} {v : Value} {l : List Rv} (h : Evs w B v l) (hb : B ≤ B') : Evs w B' v l := by
 obtain ⟨A, c, h1, h2, h3, h4⟩ := h
 exact ⟨A, c, h1, h2, h3, h4.more hb⟩
theorem add_field (a : Addr) (n i : Nat) (hi : 0 < i) : a.add (n + i) = ⟨(a.add n).block, (a.add n).off + i, none⟩ := by
 unfold Addr.add
 by_cases hn : n = 0
 ·subst hn
  simp
  omega
 ·simp [hn, Nat.add_assoc]
theorem ev_at {w : World} {B : Nat} {A : Option Addr} {l : List Rv} (h : Reads w B 10 A l.length (l.flatMap Rv.cs)) {k : Nat} (hk : k < l.length) :
  ∃ ad, A = some ad ∧ ad.block < B ∧ w.cell? (ad.add (k * 10)) = some (.int .i64 l[k].thr) ∧ w.cell? ⟨(ad.add (k * 10)).block, (ad.add (k * 10)).off + 1, none⟩ = some (.int .i64 l[k].kd) ∧ w.cell? ⟨(ad.add (k * 10)).block, (ad.add (k * 10)).off + 2, none⟩ = some (.int .u64 l[k].h) ∧ w.cell? ⟨(ad.add (k * 10)).block, (ad.add (k * 10)).off + 3, none⟩ = some (.int .i64 l[k].k) ∧ w.cell? ⟨(ad.add (k * 10)).block, (ad.add (k * 10)).off + 4, none⟩ = some (.int .i64 l[k].e) ∧ w.cell? ⟨(ad.add (k * 10)).block, (ad.add (k * 10)).off + 5, none⟩ = some (.int .u64 l[k].ah) ∧ w.cell? ⟨(ad.add (k * 10)).block, (ad.add (k * 10)).off + 6, none⟩ = some (.int .u64 l[k].an) ∧ w.cell? ⟨(ad.add (k * 10)).block, (ad.add (k * 10)).off + 7, none⟩ = some (.int .i64 l[k].bg) ∧ w.cell? ⟨(ad.add (k * 10)).block, (ad.add (k * 10)).off + 8, none⟩ = some (.int .i64 l[k].en) ∧ w.cell? ⟨(ad.add (k * 10)).block, (ad.add (k * 10)).off + 9, none⟩ = some (.bool l[k].dn) := by
 obtain ⟨ad, e, hb, hc⟩ := h.2 (by omega)
 have hf : ∀ j u, j < 10 → (l[k].cs)[j]? = some u → w.cell? (ad.add (k * 10 + j)) = some u := fun j u hj hu => hc _ _ (by rw [flat_at Rv.cs 10 (fun _ => rfl) l k hk j hj]; exact hu)
 exact ⟨ad, e, hb, hf 0 _ (by omega) rfl, by rw [← add_field _ _ 1 (by omega)]; exact hf 1 _ (by omega) rfl, by rw [← add_field _ _ 2 (by omega)]; exact hf 2 _ (by omega) rfl, by rw [← add_field _ _ 3 (by omega)]; exact hf 3 _ (by omega) rfl, by rw [← add_field _ _ 4 (by omega)]; exact hf 4 _ (by omega) rfl, by rw [← add_field _ _ 5 (by omega)]; exact hf 5 _ (by omega) rfl, by rw [← add_field _ _ 6 (by omega)]; exact hf 6 _ (by omega) rfl, by rw [← add_field _ _ 7 (by omega)]; exact hf 7 _ (by omega) rfl, by rw [← add_field _ _ 8 (by omega)]; exact hf 8 _ (by omega) rfl, by rw [← add_field _ _ 9 (by omega)]; exact hf 9 _ (by omega) rfl⟩
def hitB (h kd : Int) (x : Rv) : Bool := (x.kd == kd) && ((x.h == h) && ((x.bg != 0) && (!x.dn || (x.e == 0 || x.e == 7))))
def KeysOf (l : List Rv) (h kd : Int) (r : List Int) : Prop := (∀ y, y ∈ r ↔ ∃ x ∈ l, hitB h kd x = true ∧ x.k = y) ∧ r.length ≤ l.length
theorem KeysOf.miss {l : List Rv} {h kd : Int} {k : Nat} {r : List Int} (f : KeysOf (l.take k) h kd r) (hk : k < l.length) (hm : hitB h kd l[k] = false) : KeysOf (l.take (k + 1)) h kd r := by
 refine ⟨fun y => ?_, by have := f.2; simp at this ⊢; omega⟩
 rw [f.1, List.take_succ_eq_append_getElem hk]
 constructor
 ·rintro ⟨x, h1, h2⟩; exact ⟨x, List.mem_append_left _ h1, h2⟩
 ·rintro ⟨x, h1, h2, h3⟩
  rcases List.mem_append.1 h1 with h1 | h1
  ·exact ⟨x, h1, h2, h3⟩
  ·rw [List.mem_singleton] at h1; subst h1; rw [hm] at h2; cases h2
theorem KeysOf.hit {l : List Rv} {h kd : Int} {k : Nat} {r r' : List Int} (f : KeysOf (l.take k) h kd r) (hk : k < l.length) (hm : hitB h kd l[k] = true) (hp : PutOf r l[k].k r') : KeysOf (l.take (k + 1)) h kd r' := by
 refine ⟨fun y => ?_, by have := f.2; have := hp.2; simp at *; omega⟩
 rw [hp.1, f.1, List.take_succ_eq_append_getElem hk]
 constructor
 ·rintro (⟨x, h1, h2⟩ | rfl)
  ·exact ⟨x, List.mem_append_left _ h1, h2⟩
  ·exact ⟨_, List.mem_append_right _ (List.mem_singleton.2 rfl), hm, rfl⟩
 ·rintro ⟨x, h1, h2, h3⟩
  rcases List.mem_append.1 h1 with h1 | h1
  ·exact .inl ⟨x, h1, h2, h3⟩
  ·rw [List.mem_singleton] at h1; subst h1; exact .inr h3.symm
theorem Ints.nil (w : World) (B : Nat) (κ : IntKind) : Ints w B κ (.slice none 0 0) [] := ⟨none, 0, rfl, Nat.le_refl _, by decide, .none_, fun a ha => by cases ha⟩
set_option maxHeartbeats 8000000 in
theorem keys_any {v : Value} {l : List Rv} (h kd : Int) {w : World} (hv : Evs w w.heap.size v l) :
  Calls Tryz.prog 53 #[v, .int .u64 h, .int .i64 kd] w fun e w' => ∃ v' r, e = .returned v' ∧ Ints w' w'.heap.size .i64 v' r ∧ KeysOf l h kd r ∧ Below w.heap.size w w' ∧ Fresh w.heap.size v' := by
 obtain ⟨A, c, rfl, hc, hl, hr⟩ := hv
 have HR := Lib.hid hr
 clear hr
 go_enter Tryz.func53, Tryz.ntmps53
 go_wp2
 go_loopw [7,8] (fun o i wr => ∃ (r : List Int) (k : Nat), k ≤ l.length ∧ i = .int .i64 k ∧ Hid (KeysOf (l.take k) h kd r) ∧ Hid (Ints wr wr.heap.size .i64 o r) ∧ Hid (Below w.heap.size w wr) ∧ Hid (Fresh w.heap.size o)) (fun _ i _ => l.length - (intOf i).toNat)
 case atStart => exact ⟨[], 0, Nat.zero_le _, rfl, Lib.hid ⟨by simp, Nat.le_refl _⟩, Lib.hid (.nil _ _ _), Lib.hid (Below.refl _ _), Lib.hid (.nil _)⟩
 case round =>
  obtain ⟨r, k, hk, rfl, hK, hI, hB, hFr⟩ := hrel
  by_cases hlt : k < l.length
  ·obtain ⟨ad, rfl, hbl, c0, c1, c2, c3, c4, c5, c6, c7, c8, c9⟩ := ev_at (HR.out.below hB.out) hlt
   have HL := Lib.hid hbl
   clear hbl
   have hrl : r.length < 999999 := by have := hK.out.2; simp at this; omega
   have HP := fun (W : World) (hb : Below wr.heap.size wr W) => Put_any l[k].k ((hI.out.below hb).more hb.size) hrl
   have HPut := Lib.hid HP
   clear HP
   have g1 : (l[k].kd == kd) = true ∨ (l[k].kd == kd) = false := by cases (l[k].kd == kd) <;> simp
   rcases g1 with h1 | h1
   ·rcases Bool.eq_false_or_eq_true (l[k].h == h) with h2 | h2
    ·rcases Bool.eq_false_or_eq_true (l[k].bg != 0) with h3 | h3
     ·rcases Bool.eq_false_or_eq_true l[k].dn with h4 | h4
      ·rcases Bool.eq_false_or_eq_true (l[k].e == 0) with h5 | h5
       ·have hm : Hid (hitB h kd l[k] = true) := Lib.hid (by unfold hitB; simp [h1, h2, h3, h4, h5])
        go_wp2_with (go_at_call 24; refine (HPut.out _ (below_alloc (Below.refl _ _) _)).mono ?_; rintro e w' ⟨v', r', rfl, hi', hp', hb', hfr'⟩)
        go_roundw
        case rel => exact ⟨r', k + 1, by omega, by go_num, Lib.hid (hK.out.hit hlt hm.out hp'), Lib.hid hi', Lib.hid (below_then (below_alloc hB.out _) hb'), Lib.hid (by rcases hfr' with h | h; exact h ▸ hFr.out; exact h.less (by have := hB.out.size; simp; omega))⟩
        case measure => simp [intOf]; omega
       ·rcases Bool.eq_false_or_eq_true (l[k].e == 7) with h6 | h6
        ·have hm : Hid (hitB h kd l[k] = true) := Lib.hid (by unfold hitB; simp [h1, h2, h3, h4, h5, h6])
         go_wp2_with (go_at_call 24; refine (HPut.out _ (below_alloc (Below.refl _ _) _)).mono ?_; rintro e w' ⟨v', r', rfl, hi', hp', hb', hfr'⟩)
         go_roundw
         case rel => exact ⟨r', k + 1, by omega, by go_num, Lib.hid (hK.out.hit hlt hm.out hp'), Lib.hid hi', Lib.hid (below_then (below_alloc hB.out _) hb'), Lib.hid (by rcases hfr' with h | h; exact h ▸ hFr.out; exact h.less (by have := hB.out.size; simp; omega))⟩
         case measure => simp [intOf]; omega
        ·have hm : Hid (hitB h kd l[k] = false) := Lib.hid (by unfold hitB; simp [h1, h2, h3, h4, h5, h6])
         go_wp2
         go_roundw
         case rel => exact ⟨r, k + 1, by omega, by go_num, Lib.hid (hK.out.miss hlt hm.out), Lib.hid ((hI.out.below (below_alloc (Below.refl _ _) _)).more (by simp)), Lib.hid (below_alloc hB.out _), hFr⟩
         case measure => simp [intOf]; omega
      ·have hm : Hid (hitB h kd l[k] = true) := Lib.hid (by unfold hitB; simp [h1, h2, h3, h4])
       go_wp2_with (go_at_call 24; refine (HPut.out _ (below_alloc (Below.refl _ _) _)).mono ?_; rintro e w' ⟨v', r', rfl, hi', hp', hb', hfr'⟩)
       go_roundw
       case rel => exact ⟨r', k + 1, by omega, by go_num, Lib.hid (hK.out.hit hlt hm.out hp'), Lib.hid hi', Lib.hid (below_then (below_alloc hB.out _) hb'), Lib.hid (by rcases hfr' with h | h; exact h ▸ hFr.out; exact h.less (by have := hB.out.size; simp; omega))⟩
       case measure => simp [intOf]; omega
     ·have hm : Hid (hitB h kd l[k] = false) := Lib.hid (by unfold hitB; simp [h1, h2, h3])
      go_wp2
      go_roundw
      case rel => exact ⟨r, k + 1, by omega, by go_num, Lib.hid (hK.out.miss hlt hm.out), Lib.hid ((hI.out.below (below_alloc (Below.refl _ _) _)).more (by simp)), Lib.hid (below_alloc hB.out _), hFr⟩
      case measure => simp [intOf]; omega
    ·have hm : Hid (hitB h kd l[k] = false) := Lib.hid (by unfold hitB; simp [h1, h2])
     go_wp2
     go_roundw
     case rel => exact ⟨r, k + 1, by omega, by go_num, Lib.hid (hK.out.miss hlt hm.out), Lib.hid ((hI.out.below (below_alloc (Below.refl _ _) _)).more (by simp)), Lib.hid (below_alloc hB.out _), hFr⟩
     case measure => simp [intOf]; omega
   ·have hm : Hid (hitB h kd l[k] = false) := Lib.hid (by unfold hitB; simp [h1])
    go_wp2
    go_roundw
    case rel => exact ⟨r, k + 1, by omega, by go_num, Lib.hid (hK.out.miss hlt hm.out), Lib.hid ((hI.out.below (below_alloc (Below.refl _ _) _)).more (by simp)), Lib.hid (below_alloc hB.out _), hFr⟩
    case measure => simp [intOf]; omega
  ·have hkl : k = l.length := by omega
   have HKL := Lib.hid hkl
   clear hkl
   go_wp2
   go_ret
   have h2 := hK.out
   rw [List.take_of_length_le (by have := HKL.out; omega)] at h2
   exact ⟨_, r, rfl, hI.out, h2, hB.out, hFr.out⟩
def Rv.val (x : Rv) : Value := .agg #[.int .i64 x.thr, .int .i64 x.kd, .int .u64 x.h, .int .i64 x.k, .int .i64 x.e, .int .u64 x.ah, .int .u64 x.an, .int .i64 x.bg, .int .i64 x.en, .bool x.dn]
def endB (x : Rv) : Bool := x.dn && (((x.kd == 4) && (x.e == 0 || (x.e == 7 || x.e == 6))) || (((x.kd == 5) && (x.e == 0)) || ((x.kd == 2 || x.kd == 3) && (x.e == 7 || x.e == 8))))
set_option maxHeartbeats 8000000 in
theorem ends_any (x : Rv) (w : World) : Calls Tryz.prog 54 #[.agg #[.int .i64 x.thr, .int .i64 x.kd, .int .u64 x.h, .int .i64 x.k, .int .i64 x.e, .int .u64 x.ah, .int .u64 x.an, .int .i64 x.bg, .int .i64 x.en, .bool x.dn]] w fun e w' => e = .returned (.bool (endB x)) ∧ Below w.heap.size w w' := by
 obtain ⟨thr, kd, h, k, e, ah, an, bg, en, dn⟩ := x
 simp only
 have hb := below_alloc (Below.refl w.heap.size w) (.cells #[.int .i64 thr, .int .i64 kd, .int .u64 h, .int .i64 k, .int .i64 e, .int .u64 ah, .int .u64 an, .int .i64 bg, .int .i64 en, .bool dn] 44)
 have HB := Lib.hid hb
 clear hb
 cases dn with
 | false =>
  have E : endB ⟨thr, kd, h, k, e, ah, an, bg, en, false⟩ = false := rfl
  rw [E]
  clear E
  go_enter Tryz.func54, Tryz.ntmps54
  go_wp2
  go_ret
  exact ⟨rfl, HB.out⟩
 | true =>
  by_cases k4 : kd = 4
  ·subst k4
   have E : endB ⟨thr, 4, h, k, e, ah, an, bg, en, true⟩ = (e == 0 || (e == 7 || e == 6)) := by unfold endB; simp
   rw [E]
   clear E
   cases h1 : (e == 0) <;> cases h2 : (e == 7) <;> cases h3 : (e == 6)
   all_goals
    go_enter Tryz.func54, Tryz.ntmps54
    go_wp2
    go_ret
    exact ⟨rfl, HB.out⟩
  ·by_cases k5 : kd = 5
   ·subst k5
    have E : endB ⟨thr, 5, h, k, e, ah, an, bg, en, true⟩ = (e == 0) := by unfold endB; simp
    rw [E]
    clear E
    cases h1 : (e == 0)
    all_goals
     go_enter Tryz.func54, Tryz.ntmps54
     go_wp2
     go_ret
     exact ⟨rfl, HB.out⟩
   ·by_cases k2 : kd = 2 ∨ kd = 3
    ·have E : endB ⟨thr, kd, h, k, e, ah, an, bg, en, true⟩ = (e == 7 || e == 8) := by unfold endB; rcases k2 with rfl | rfl <;> simp
     rw [E]
     clear E k4 k5
     rcases k2 with rfl | rfl
     all_goals
      cases h1 : (e == 7) <;> cases h2 : (e == 8)
     all_goals
      go_enter Tryz.func54, Tryz.ntmps54
      go_wp2
      go_ret
      exact ⟨rfl, HB.out⟩
    ·have n4 : (kd == 4) = false := by simpa using k4
     have n5 : (kd == 5) = false := by simpa using k5
     have n2 : (kd == 2) = false := by simp; omega
     have n3 : (kd == 3) = false := by simp; omega
     have E : endB ⟨thr, kd, h, k, e, ah, an, bg, en, true⟩ = false := by unfold endB; simp only [n4, n5, n2, n3]; simp
     rw [E]
     clear E k4 k5 k2
     go_enter Tryz.func54, Tryz.ntmps54
     go_wp2
     go_ret
     exact ⟨rfl, HB.out⟩
theorem info_44 : (Tryz.prog.info? 44).map (fun i => (i.zero, i.size, i.bytes)) = some (some (.agg #[(.int .i64 0), (.int .i64 0), (.int .u64 0), (.int .i64 0), (.int .i64 0), (.int .u64 0), (.int .u64 0), (.int .i64 0), (.int .i64 0), (.bool false)]), 10, 80) := by kernel_rfl
theorem Evs.of_fill {w0 w : World} {v : Value} {out : List Rv} (h : w.ownsRow w0.heap.size 44 10 v out.length (out.flatMap Rv.cs)) (hl : out.length < 10000) : Evs w w.heap.size v out := by
 have h2 := h.2
 rcases h2 with ⟨rfl, h0⟩ | ⟨g, cap, cur, rfl, hb, hg, hnc, _⟩
 ·exact ⟨none, 0, by rw [h0], by omega, hl, by rw [h0, List.eq_nil_of_length_eq_zero h0]; exact .none_⟩
 ·exact ⟨some ⟨g, 0, none⟩, cap, rfl, hnc, hl, Reads.of_own h⟩
theorem filter_take {α : Type} (p : α → Bool) (l : List α) (k : Nat) (hk : k < l.length) : (l.take (k + 1)).filter p = (l.take k).filter p ++ (if p l[k] = true then [l[k]] else []) := by
 rw [List.take_succ_eq_append_getElem hk, List.filter_append]
 congr 1
 by_cases h : p l[k] = true <;> simp [h]
def untB (m : Int) (x : Rv) : Bool := x.bg != 0 && decide (x.bg ≤ m)
set_option maxHeartbeats 8000000 in
theorem Until_any {v : Value} {l : List Rv} (m : Int) {w : World} (hv : Evs w w.heap.size v l) :
  Calls Tryz.prog 27 #[v, .int .i64 m] w fun e w' => ∃ v', e = .returned v' ∧ Evs w' w'.heap.size v' (l.filter (untB m)) ∧ Below w.heap.size w w' := by
 obtain ⟨A, c, rfl, hc, hl, hr⟩ := hv
 have HR := Lib.hid hr
 clear hr
 go_enter Tryz.func27, Tryz.ntmps27
 go_wp2
 go_loopw [5,6] (fun o i wr => ∃ (r : List Rv) (k : Nat), k ≤ l.length ∧ i = .int .i64 k ∧ Hid (r = (l.take k).filter (untB m)) ∧ Hid (Fill w 44 10 o r.length (r.flatMap Rv.cs) wr)) (fun _ i _ => l.length - (intOf i).toNat)
 case atStart => exact ⟨[], 0, Nat.zero_le _, rfl, Lib.hid (by simp), Lib.hid ⟨World.ownsRow_nil _ _ _ _, Below.refl _ _⟩⟩
 case round =>
  obtain ⟨r, k, hk, rfl, hK, hF⟩ := hrel
  by_cases hlt : k < l.length
  ·obtain ⟨ad, rfl, hbl, c0, c1, c2, c3, c4, c5, c6, c7, c8, c9⟩ := ev_at (HR.out.below hF.out.2) hlt
   have HL := Lib.hid hbl
   clear hbl
   have hft := filter_take (untB m) l k hlt
   have HFT := Lib.hid hft
   clear hft
   have hrl : r.length < 1000000 := by have h1 := List.length_filter_le (untB m) (l.take k); rw [hK.out]; simp at h1 ⊢; omega
   rcases Bool.eq_false_or_eq_true (l[k].bg != 0) with h1 | h1
   ·rcases Bool.eq_false_or_eq_true (decide (l[k].bg ≤ m)) with h2 | h2
    ·have hm : Hid (untB m l[k] = true) := Lib.hid (by unfold untB; rw [h1, h2]; rfl)
     go_wp2_with (at_builtin; refine wpList_grow rfl (.tmp 28) (.tmp 33) 35 rfl 44 10 80 _ Tryz.underlying35 info_44 rfl (by decide) (by decide) hF.out (by omega) rfl (l[k].cs) rfl (by simp [Value.oneCell', Rv.cs]) _ rfl ?_; intro g cap w1 hf1)
     go_roundw
     case rel => exact ⟨r ++ [l[k]], k + 1, by omega, by go_num, Lib.hid (by rw [HFT.out, if_pos hm.out, hK.out]), Lib.hid (by simpa using hf1)⟩
     case measure => simp [intOf]; omega
    ·have hm : Hid (untB m l[k] = false) := Lib.hid (by unfold untB; rw [h1, h2]; rfl)
     go_wp2
     go_roundw
     case rel => exact ⟨r, k + 1, by omega, by go_num, Lib.hid (by rw [HFT.out, hm.out, hK.out]; simp), hF⟩
     case measure => simp [intOf]; omega
   ·have hm : Hid (untB m l[k] = false) := Lib.hid (by unfold untB; rw [h1]; rfl)
    go_wp2
    go_roundw
    case rel => exact ⟨r, k + 1, by omega, by go_num, Lib.hid (by rw [HFT.out, hm.out, hK.out]; simp), hF⟩
    case measure => simp [intOf]; omega
  ·have hkl : k = l.length := by omega
   have HKL := Lib.hid hkl
   clear hkl
   go_wp2
   go_ret
   have h2 := hK.out
   rw [List.take_of_length_le (by have := HKL.out; omega)] at h2
   have h3 := List.length_filter_le (untB m) l
   refine ⟨_, rfl, ?_, hF.out.2⟩
   rw [← h2]
   exact Evs.of_fill hF.out.1 (by rw [h2]; omega)
def begB (h : Int) (x : Rv) : Bool := (x.kd == 1) && (x.dn && ((x.e == 0) && (x.ah == h)))
def OfR (l : List Rv) (h bg en : Int) : Prop := (bg = 0 ∨ ∃ x ∈ l, begB h x = true ∧ bg = x.bg) ∧ (en = 0 ∨ ∃ x ∈ l, x.h = h ∧ endB x = true ∧ en = x.en)
def LifeOf (l : List Rv) (h : Int) (x : Lf) : Prop := KeysOf l h 2 x.rs ∧ KeysOf l h 3 x.ws ∧ OfR l h x.bg x.en
theorem Ints.but {w w' : World} {B B' : Nat} {κ : IntKind} {v : Value} {l : List Int} (h : Ints w B κ v l) {b n : Nat} (hf : Fresh n v) (hb : b < n) (hB : B ≤ B') (hk : ∀ p : Addr, p.block < B → p.block ≠ b → w'.cell? p = w.cell? p) : Ints w' B' κ v l := by
 obtain ⟨A, c, rfl, h2, h3, h4, h5⟩ := h
 refine ⟨A, c, rfl, h2, h3, ⟨h4.1, fun hn => ?_⟩, fun a ha => Nat.lt_of_lt_of_le (h5 a ha) hB⟩
 obtain ⟨ad, rfl, hbl, hc⟩ := h4.2 hn
 refine ⟨ad, rfl, by omega, fun j u hu => (hk _ (by rw [block_of_add]; exact hbl) ?_).trans (hc j u hu)⟩
 rw [block_of_add]
 have := hf ad.block (by simp [Value.ownBlock])
 omega
theorem four {W : World} {g : Nat} {a b c d : Value} {t : TypeId} (h : W.heap[g]? = some (.cells #[a, b, c, d] t (0, 0))) :
  (W.cell? ⟨g, 0, none⟩ = some a ∧ W.cell? ⟨g, 1, none⟩ = some b ∧ W.cell? ⟨g, 2, none⟩ = some c ∧ W.cell? ⟨g, 3, none⟩ = some d) ∧ (W.frozen? ⟨g, 0, none⟩ = false ∧ W.frozen? ⟨g, 1, none⟩ = false ∧ W.frozen? ⟨g, 2, none⟩ = false ∧ W.frozen? ⟨g, 3, none⟩ = false) := by
 refine ⟨⟨?_, ?_, ?_, ?_⟩, ?_, ?_, ?_, ?_⟩
 all_goals first | (rw [cell_of_row W g _ _ _ _ h]; rfl) | simp [World.frozen?, h]
def Bl4 (W : World) (g : Nat) (a b c d : Value) : Prop := W.heap[g]? = some (.cells #[a, b, c, d] 83 (0, 0))
section
variable {W W' : World} {g : Nat} {a b c d : Value}
theorem Bl4.new : Bl4 (W.alloc (.cells #[a, b, c, d] 83)) W.heap.size a b c d := heap_alloc_new W _
theorem Bl4.lt (h : Bl4 W g a b c d) : g < W.heap.size := by
 unfold Bl4 at h
 rcases Nat.lt_or_ge g W.heap.size with hlt | hge
 ·exact hlt
 ·rw [Array.getElem?_eq_none hge] at h; cases h
theorem Bl4.alloc (h : Bl4 W g a b c d) (o : Obj) : Bl4 (W.alloc o) g a b c d := (Below.heap_alloc W o g h.lt).trans h
theorem Bl4.below (h : Bl4 W g a b c d) (hb : Below W.heap.size W W') : Bl4 W' g a b c d := (hb.block g h.lt).trans h
theorem Bl4.set0 (h : Bl4 W g a b c d) (v : Value) : Bl4 (W.setCell ⟨g, 0, none⟩ v) g v b c d := by
 unfold Bl4 at h ⊢; simp [World.setCell, Array.getElem?_modify, h]
theorem Bl4.set1 (h : Bl4 W g a b c d) (v : Value) : Bl4 (W.setCell ⟨g, 1, none⟩ v) g a v c d := by
 unfold Bl4 at h ⊢; simp [World.setCell, Array.getElem?_modify, h]
end
theorem OfR.beg {l : List Rv} {h bg en : Int} (f : OfR l h bg en) {k : Nat} (hk : k < l.length) (hb : begB h l[k] = true) : OfR l h l[k].bg en := ⟨.inr ⟨_, List.getElem_mem hk, hb, rfl⟩, f.2⟩
theorem OfR.end {l : List Rv} {h bg en : Int} (f : OfR l h bg en) {k : Nat} (hk : k < l.length) (hh : (l[k].h == h) = true) (hb : endB l[k] = true) : OfR l h bg l[k].en := ⟨f.1, .inr ⟨_, List.getElem_mem hk, by simpa using hh, hb, rfl⟩⟩
set_option maxHeartbeats 8000000 in
theorem Of_any {v : Value} {l : List Rv} (h : Int) {w : World} (hv : Evs w w.heap.size v l) :
  Calls Tryz.prog 29 #[v, .int .u64 h] w fun e w' => ∃ vr vs x, e = .returned (.agg #[.int .i64 x.bg, .int .i64 x.en, vr, vs]) ∧ (Ints w' w'.heap.size .i64 vr x.rs ∧ Ints w' w'.heap.size .i64 vs x.ws) ∧ (Fresh w.heap.size vr ∧ Fresh w.heap.size vs) ∧ LifeOf l h x ∧ Below w.heap.size w w' := by
 have hKy := fun (kd : Int) (W : World) (hb : Below w.heap.size w W) => keys_any h kd ((hv.below hb).more hb.size)
 obtain ⟨A, c, rfl, hc, hl, hr⟩ := hv
 have HR := Lib.hid hr
 have HKy := Lib.hid hKy
 clear hr hKy
 go_enter Tryz.func29, Tryz.ntmps29
 go_wp2_with fail
 refine (HKy.out 2 _ (below_alloc (Below.refl _ _) _)).mono ?_
 rintro e w1 ⟨v1, r1, rfl, hi1, hk1, hb1, hf1⟩
 have HI1 := Lib.hid hi1
 have HK1 := Lib.hid hk1
 have HB1 := Lib.hid (below_then (below_alloc (Below.refl _ _) _) hb1)
 have HF1 := Lib.hid hf1
 have HB1' := Lib.hid hb1
 obtain ⟨A1, c1, rfl, _, _, _, _⟩ := hi1
 clear hk1 hb1 hf1
 go_wp2_with fail
 refine (HKy.out 3 _ HB1.out).mono ?_
 rintro e w2 ⟨v2, r2, rfl, hi2, hk2, hb2, hf2⟩
 have HI2 := Lib.hid hi2
 have HK2 := Lib.hid hk2
 have HB2 := Lib.hid hb2
 have HF2 := Lib.hid hf2
 obtain ⟨A2, c2, rfl, _, _, _, _⟩ := hi2
 clear hk2 hb2 hf2
 go_wp2_with fail
 have HB3 := Lib.hid (below_then HB1.out HB2.out)
 go_loopw [6] (fun i wr => ∃ (j bg en : Int), -1 ≤ j ∧ j < l.length ∧ i = .int .i64 j ∧ Hid (OfR l h bg en) ∧ Hid (Bl4 wr w2.heap.size (.int .i64 bg) (.int .i64 en) (.slice A1 r1.length c1) (.slice A2 r2.length c2)) ∧ Hid (Below w2.heap.size w2 wr)) (fun i _ => (intOf i + 1).toNat)
 case atStart => exact ⟨(l.length : Int) - 1, 0, 0, by omega, by omega, rfl, Lib.hid ⟨.inl rfl, .inl rfl⟩, Lib.hid .new, Lib.hid (below_alloc (Below.refl _ _) _)⟩
 case round =>
  obtain ⟨j, bg, en, hj1, hj2, rfl, hof, hblk, hbw⟩ := hrel
  obtain ⟨⟨d0, d1, d2, d3⟩, z0, z1, z2, z3⟩ := four hblk.out
  have hgs := hblk.out.lt
  by_cases hjn : 0 ≤ j
  ·obtain ⟨m, rfl⟩ : ∃ m : Nat, j = (m : Int) := ⟨j.toNat, by omega⟩
   have hlt : m < l.length := by omega
   clear hjn hj1 hj2
   obtain ⟨ad, rfl, hbl, c0, c1, c2, c3, c4, c5, c6, c7, c8, c9⟩ := ev_at (HR.out.below (below_then HB3.out hbw.out)) hlt
   have HL := Lib.hid hbl
   clear hbl
   rcases Bool.eq_false_or_eq_true (l[m].kd == 1) with h1 | h1
   ·rcases Bool.eq_false_or_eq_true (l[m].dn) with h2 | h2
    ·rcases Bool.eq_false_or_eq_true (l[m].e == 0) with h3 | h3
     ·rcases Bool.eq_false_or_eq_true (l[m].ah == h) with h4 | h4
      ·rcases Bool.eq_false_or_eq_true (l[m].h == h) with h5 | h5
       ·have HH5 := Lib.hid h5
        cases g6 : endB l[m] with
        | true =>
         have hm : Hid (begB h l[m] = true) := Lib.hid (by unfold begB; simp [h1, h2, h3, h4])
         have hN := ends_any l[m]
         rw [g6] at hN
         rw [h2] at hN
         have HN := Lib.hid hN
         have HE := Lib.hid g6
         clear hN g6
         go_wp2_with (go_at_call 54; (with_reducible refine (HN.out _).mono ?_); rintro e w3 ⟨rfl, hb3⟩; obtain ⟨hcell, hfro⟩ := bcell hb3)
         go_roundw
         case rel => exact ⟨(m : Int) - 1, l[m].bg, l[m].en, by omega, by omega, rfl, Lib.hid ((hof.out.beg hlt hm.out).end hlt HH5.out HE.out), Lib.hid ((((hblk.out.set0 _).alloc _).below hb3).set1 _), Lib.hid (below_set (below_then (below_alloc (below_set hbw.out (Nat.le_refl _) _) _) hb3) (Nat.le_refl _) _)⟩
         case measure => simp [intOf] <;> omega
        | false =>
         have hm : Hid (begB h l[m] = true) := Lib.hid (by unfold begB; simp [h1, h2, h3, h4])
         have hN := ends_any l[m]
         rw [g6] at hN
         rw [h2] at hN
         have HN := Lib.hid hN
         have HE := Lib.hid g6
         clear hN g6
         go_wp2_with (go_at_call 54; (with_reducible refine (HN.out _).mono ?_); rintro e w3 ⟨rfl, hb3⟩; obtain ⟨hcell, hfro⟩ := bcell hb3)
         go_roundw
         case rel => exact ⟨(m : Int) - 1, l[m].bg, en, by omega, by omega, rfl, Lib.hid (hof.out.beg hlt hm.out), Lib.hid (((hblk.out.set0 _).alloc _).below hb3), Lib.hid (below_then (below_alloc (below_set hbw.out (Nat.le_refl _) _) _) hb3)⟩
         case measure => simp [intOf] <;> omega
       ·have hm : Hid (begB h l[m] = true) := Lib.hid (by unfold begB; simp [h1, h2, h3, h4])
        go_wp2
        go_roundw
        case rel => exact ⟨(m : Int) - 1, l[m].bg, en, by omega, by omega, rfl, Lib.hid (hof.out.beg hlt hm.out), Lib.hid ((hblk.out.set0 _).alloc _), Lib.hid (below_alloc (below_set hbw.out (Nat.le_refl _) _) _)⟩
        case measure => simp [intOf] <;> omega
      ·rcases Bool.eq_false_or_eq_true (l[m].h == h) with h5 | h5
       ·have HH5 := Lib.hid h5
        cases g6 : endB l[m] with
        | true =>
         have hN := ends_any l[m]
         rw [g6] at hN
         rw [h2] at hN
         have HN := Lib.hid hN
         have HE := Lib.hid g6
         clear hN g6
         go_wp2_with (go_at_call 54; (with_reducible refine (HN.out _).mono ?_); rintro e w3 ⟨rfl, hb3⟩; obtain ⟨hcell, hfro⟩ := bcell hb3)
         go_roundw
         case rel => exact ⟨(m : Int) - 1, bg, l[m].en, by omega, by omega, rfl, Lib.hid (hof.out.end hlt HH5.out HE.out), Lib.hid (((hblk.out.alloc _).below hb3).set1 _), Lib.hid (below_set (below_then (below_alloc hbw.out _) hb3) (Nat.le_refl _) _)⟩
         case measure => simp [intOf] <;> omega
        | false =>
         have hN := ends_any l[m]
         rw [g6] at hN
         rw [h2] at hN
         have HN := Lib.hid hN
         have HE := Lib.hid g6
         clear hN g6
         go_wp2_with (go_at_call 54; (with_reducible refine (HN.out _).mono ?_); rintro e w3 ⟨rfl, hb3⟩; obtain ⟨hcell, hfro⟩ := bcell hb3)
         go_roundw
         case rel => exact ⟨(m : Int) - 1, bg, en, by omega, by omega, rfl, Lib.hid hof.out, Lib.hid ((hblk.out.alloc _).below hb3), Lib.hid (below_then (below_alloc hbw.out _) hb3)⟩
         case measure => simp [intOf] <;> omega
       ·go_wp2
        go_roundw
        case rel => exact ⟨(m : Int) - 1, bg, en, by omega, by omega, rfl, Lib.hid hof.out, Lib.hid (hblk.out.alloc _), Lib.hid (below_alloc hbw.out _)⟩
        case measure => simp [intOf] <;> omega
     ·rcases Bool.eq_false_or_eq_true (l[m].h == h) with h5 | h5
      ·have HH5 := Lib.hid h5
       cases g6 : endB l[m] with
       | true =>
        have hN := ends_any l[m]
        rw [g6] at hN
        rw [h2] at hN
        have HN := Lib.hid hN
        have HE := Lib.hid g6
        clear hN g6
        go_wp2_with (go_at_call 54; (with_reducible refine (HN.out _).mono ?_); rintro e w3 ⟨rfl, hb3⟩; obtain ⟨hcell, hfro⟩ := bcell hb3)
        go_roundw
        case rel => exact ⟨(m : Int) - 1, bg, l[m].en, by omega, by omega, rfl, Lib.hid (hof.out.end hlt HH5.out HE.out), Lib.hid (((hblk.out.alloc _).below hb3).set1 _), Lib.hid (below_set (below_then (below_alloc hbw.out _) hb3) (Nat.le_refl _) _)⟩
        case measure => simp [intOf] <;> omega
       | false =>
        have hN := ends_any l[m]
        rw [g6] at hN
        rw [h2] at hN
        have HN := Lib.hid hN
        have HE := Lib.hid g6
        clear hN g6
        go_wp2_with (go_at_call 54; (with_reducible refine (HN.out _).mono ?_); rintro e w3 ⟨rfl, hb3⟩; obtain ⟨hcell, hfro⟩ := bcell hb3)
        go_roundw
        case rel => exact ⟨(m : Int) - 1, bg, en, by omega, by omega, rfl, Lib.hid hof.out, Lib.hid ((hblk.out.alloc _).below hb3), Lib.hid (below_then (below_alloc hbw.out _) hb3)⟩
        case measure => simp [intOf] <;> omega
      ·go_wp2
       go_roundw
       case rel => exact ⟨(m : Int) - 1, bg, en, by omega, by omega, rfl, Lib.hid hof.out, Lib.hid (hblk.out.alloc _), Lib.hid (below_alloc hbw.out _)⟩
       case measure => simp [intOf] <;> omega
    ·rcases Bool.eq_false_or_eq_true (l[m].h == h) with h5 | h5
     ·have HH5 := Lib.hid h5
      cases g6 : endB l[m] with
      | true =>
       have hN := ends_any l[m]
       rw [g6] at hN
       rw [h2] at hN
       have HN := Lib.hid hN
       have HE := Lib.hid g6
       clear hN g6
       go_wp2_with (go_at_call 54; (with_reducible refine (HN.out _).mono ?_); rintro e w3 ⟨rfl, hb3⟩; obtain ⟨hcell, hfro⟩ := bcell hb3)
       go_roundw
       case rel => exact ⟨(m : Int) - 1, bg, l[m].en, by omega, by omega, rfl, Lib.hid (hof.out.end hlt HH5.out HE.out), Lib.hid (((hblk.out.alloc _).below hb3).set1 _), Lib.hid (below_set (below_then (below_alloc hbw.out _) hb3) (Nat.le_refl _) _)⟩
       case measure => simp [intOf] <;> omega
      | false =>
       have hN := ends_any l[m]
       rw [g6] at hN
       rw [h2] at hN
       have HN := Lib.hid hN
       have HE := Lib.hid g6
       clear hN g6
       go_wp2_with (go_at_call 54; (with_reducible refine (HN.out _).mono ?_); rintro e w3 ⟨rfl, hb3⟩; obtain ⟨hcell, hfro⟩ := bcell hb3)
       go_roundw
       case rel => exact ⟨(m : Int) - 1, bg, en, by omega, by omega, rfl, Lib.hid hof.out, Lib.hid ((hblk.out.alloc _).below hb3), Lib.hid (below_then (below_alloc hbw.out _) hb3)⟩
       case measure => simp [intOf] <;> omega
     ·go_wp2
      go_roundw
      case rel => exact ⟨(m : Int) - 1, bg, en, by omega, by omega, rfl, Lib.hid hof.out, Lib.hid (hblk.out.alloc _), Lib.hid (below_alloc hbw.out _)⟩
      case measure => simp [intOf] <;> omega
   ·rcases Bool.eq_false_or_eq_true (l[m].h == h) with h5 | h5
    ·have HH5 := Lib.hid h5
     cases g6 : endB l[m] with
     | true =>
      have hN := ends_any l[m]
      rw [g6] at hN
      have HN := Lib.hid hN
      have HE := Lib.hid g6
      clear hN g6
      go_wp2_with (go_at_call 54; (with_reducible refine (HN.out _).mono ?_); rintro e w3 ⟨rfl, hb3⟩; obtain ⟨hcell, hfro⟩ := bcell hb3)
      go_roundw
      case rel => exact ⟨(m : Int) - 1, bg, l[m].en, by omega, by omega, rfl, Lib.hid (hof.out.end hlt HH5.out HE.out), Lib.hid (((hblk.out.alloc _).below hb3).set1 _), Lib.hid (below_set (below_then (below_alloc hbw.out _) hb3) (Nat.le_refl _) _)⟩
      case measure => simp [intOf] <;> omega
     | false =>
      have hN := ends_any l[m]
      rw [g6] at hN
      have HN := Lib.hid hN
      have HE := Lib.hid g6
      clear hN g6
      go_wp2_with (go_at_call 54; (with_reducible refine (HN.out _).mono ?_); rintro e w3 ⟨rfl, hb3⟩; obtain ⟨hcell, hfro⟩ := bcell hb3)
      go_roundw
      case rel => exact ⟨(m : Int) - 1, bg, en, by omega, by omega, rfl, Lib.hid hof.out, Lib.hid ((hblk.out.alloc _).below hb3), Lib.hid (below_then (below_alloc hbw.out _) hb3)⟩
      case measure => simp [intOf] <;> omega
    ·go_wp2
     go_roundw
     case rel => exact ⟨(m : Int) - 1, bg, en, by omega, by omega, rfl, Lib.hid hof.out, Lib.hid (hblk.out.alloc _), Lib.hid (below_alloc hbw.out _)⟩
     case measure => simp [intOf] <;> omega
  ·obtain rfl : j = -1 := by omega
   clear hjn hj1 hj2
   have h0 : Bl4 w2 w.heap.size (.int .i64 0) (.int .i64 0) (.slice none 0 0) (.slice none 0 0) := (Bl4.new.below HB1'.out).below HB2.out
   have h0r := h0.below hbw.out
   obtain ⟨⟨q0, q1, q2, q3⟩, y0, y1, y2, y3⟩ := four h0r
   have hlt := h0.lt
   have hne : w.heap.size ≠ w2.heap.size := by omega
   go_wp2
   refine bodyPost_ret (v := .agg #[.int .i64 bg, .int .i64 en, .slice A1 r1.length c1, .slice A2 r2.length c2]) (by simp [results, Tryz.results29, go_sem, q0, q1, q2, q3]) rfl ?_
   have hB := below_then HB3.out hbw.out
   have hk : ∀ p : Addr, p.block ≠ w.heap.size → ((((wr.setCell ⟨w.heap.size, 0, none⟩ (.int .i64 bg)).setCell ⟨w.heap.size, 1, none⟩ (.int .i64 en)).setCell ⟨w.heap.size, 2, none⟩ (.slice A1 r1.length c1)).setCell ⟨w.heap.size, 3, none⟩ (.slice A2 r2.length c2)).cell? p = wr.cell? p := by
    intro p hp
    rw [World.cell?_setCell_other _ _ _ _ (fun e => by subst e; exact hp rfl), World.cell?_setCell_other _ _ _ _ (fun e => by subst e; exact hp rfl), World.cell?_setCell_other _ _ _ _ (fun e => by subst e; exact hp rfl), World.cell?_setCell_other _ _ _ _ (fun e => by subst e; exact hp rfl)]
   have hz2 := HB2.out.size
   have hz3 := hbw.out.size
   refine ⟨_, _, ⟨bg, en, r1, r2⟩, rfl, ⟨HI1.out.but (b := w.heap.size) HF1.out (by simp) (by simp; omega) fun p h1 h2 => ?_, HI2.out.but (b := w.heap.size) HF2.out (by have := HB1'.out.size; simp at this; omega) (by simp; omega) fun p h1 h2 => ?_⟩, ⟨HF1.out.less (by simp), HF2.out.less HB1.out.size⟩, ⟨HK1.out, HK2.out, hof.out⟩, ?_⟩
   ·rw [hk p h2, hbw.out.cell (p := p) (by omega), HB2.out.cell (p := p) h1]
   ·rw [hk p h2, hbw.out.cell (p := p) h1]
   ·exact below_set (below_set (below_set (below_set hB (Nat.le_refl _) _) (Nat.le_refl _) _) (Nat.le_refl _) _) (Nat.le_refl _) _
structure Lv where
 x : Lf
 r : Value
 s : Value
def Lv.cs (q : Lv) : List Value := [.int .i64 q.x.bg, .int .i64 q.x.en, q.r, q.s]
def LvOk (w : World) (B : Nat) (q : Lv) : Prop := Ints w B .i64 q.r q.x.rs ∧ Ints w B .i64 q.s q.x.ws
def LvsV (w : World) (B : Nat) (v : Value) (qs : List Lv) : Prop :=
 ∃ A c, v = .slice A qs.length c ∧ qs.length ≤ c ∧ qs.length < 10000 ∧ Reads w B 4 A qs.length (qs.flatMap Lv.cs) ∧ ∀ q ∈ qs, LvOk w B q
theorem LvOk.below {w w' : World} {B : Nat} {q : Lv} (h : LvOk w B q) (hb : Below B w w') : LvOk w' B q := ⟨h.1.below hb, h.2.below hb⟩
theorem LvOk.more {w : World} {B B' : Nat} {q : Lv} (h : LvOk w B q) (hb : B ≤ B') : LvOk w B' q := ⟨h.1.more hb, h.2.more hb⟩
theorem LvsV.below {w w' : World} {B : Nat} {v : Value} {qs : List Lv} (h : LvsV w B v qs) (hb : Below B w w') : LvsV w' B v qs := by
 obtain ⟨A, c, h1, h2, h3, h4, h5⟩ := h
 exact ⟨A, c, h1, h2, h3, h4.below hb, fun q hq => (h5 q hq).below hb⟩
theorem LvsV.more {w : World} {B B' : Nat} {v : Value} {qs : List Lv} (h : LvsV w B v qs) (hb : B ≤ B') : LvsV w B' v qs := by
 obtain ⟨A, c, h1, h2, h3, h4, h5⟩ := h
 exact ⟨A, c, h1, h2, h3, h4.more hb, fun q hq => (h5 q hq).more hb⟩
theorem info_83 : (Tryz.prog.info? 83).map (fun i => (i.zero, i.size, i.bytes)) = some (some (.agg #[(.int .i64 0), (.int .i64 0), (.slice none 0 0), (.slice none 0 0)]), 4, 64) := by kernel_rfl
theorem Ints.far {w w' : World} {B B' : Nat} {κ : IntKind} {v o : Value} {l : List Int} (h : Ints w B κ v l) (hv : ∀ g, v.ownBlock = some g → o.ownBlock ≠ some g) (hk : ∀ p : Addr, p.block < B → o.ownBlock ≠ some p.block → w'.cell? p = w.cell? p) (hB : B ≤ B') : Ints w' B' κ v l := by
 obtain ⟨A, c, rfl, h2, h3, h4, h5⟩ := h
 refine ⟨A, c, rfl, h2, h3, ⟨h4.1, fun hn => ?_⟩, fun a ha => Nat.lt_of_lt_of_le (h5 a ha) hB⟩
 obtain ⟨ad, rfl, hbl, hc⟩ := h4.2 hn
 refine ⟨ad, rfl, by omega, fun j u hu => (hk _ (by rw [block_of_add]; exact hbl) ?_).trans (hc j u hu)⟩
 rw [block_of_add]
 exact hv _ (by simp [Value.ownBlock])
def Off (o : Value) (q : Lv) : Prop := (∀ g, q.r.ownBlock = some g → o.ownBlock ≠ some g) ∧ ∀ g, q.s.ownBlock = some g → o.ownBlock ≠ some g
theorem fill_lt {w0 w : World} {e : TypeId} {size n : Nat} {v : Value} {xs : List Value} (h : Fill w0 e size v n xs w) {g : Nat} (hg : v.ownBlock = some g) : g < w.heap.size := by
 rcases h.1.2 with ⟨rfl, _⟩ | ⟨g', cap, cur, rfl, _, h5, _⟩
 ·simp [Value.ownBlock] at hg
 ·have : g' = g := by simpa [Value.ownBlock] using hg
  subst this
  rcases Nat.lt_or_ge g' w.heap.size with hlt | hge
  ·exact hlt
  ·rw [Array.getElem?_eq_none hge] at h5; cases h5
def LivesUp (l : List Rv) (t : List Int) (k : Nat) (qs : List Lv) : Prop := qs.length = k ∧ ∀ i (h1 : i < qs.length) (h2 : i < t.length), LifeOf l t[i] qs[i].x
structure LivesAt (w0 : World) (o : Value) (qs : List Lv) (wr : World) : Prop where
 fill : Fill w0 83 4 o qs.length (qs.flatMap Lv.cs) wr
 ok : ∀ q ∈ qs, LvOk wr wr.heap.size q
 off : ∀ q ∈ qs, Off o q
theorem LivesAt.push {w0 wr w1 w2 : World} {o : Value} {qs : List Lv} (h : LivesAt w0 o qs wr) (hb : Below wr.heap.size wr w1) {q : Lv} (hq : LvOk w1 w1.heap.size q) (hfr : Fresh wr.heap.size q.r ∧ Fresh wr.heap.size q.s) {g cap : Nat}
  (hf : Fill w0 83 4 (.slice (some ⟨g, 0, none⟩) (qs.length + 1) cap) (qs.length + 1) (qs.flatMap Lv.cs ++ q.cs) w2) (hfar : ∀ p : Addr, p.block < w1.heap.size → o.ownBlock ≠ some p.block → w2.cell? p = w1.cell? p) (hat : o.ownBlock = some g ∨ w1.heap.size < g) (hsz : w1.heap.size ≤ w2.heap.size) :
  LivesAt w0 (.slice (some ⟨g, 0, none⟩) (qs.length + 1) cap) (qs ++ [q]) w2 := by
 have hg2 : g < w2.heap.size := fill_lt hf (by simp [Value.ownBlock])
 have hoff : Off o q := ⟨fun g' h1 h2 => by have := fill_lt h.fill h2; have := hfr.1 g' h1; omega, fun g' h1 h2 => by have := fill_lt h.fill h2; have := hfr.2 g' h1; omega⟩
 have hall : ∀ y ∈ qs ++ [q], LvOk w1 w1.heap.size y ∧ Off o y := by
  intro y hy
  rcases List.mem_append.1 hy with hy | hy
  ·exact ⟨((h.ok y hy).below hb).more hb.size, h.off y hy⟩
  ·rw [List.mem_singleton] at hy; subst hy; exact ⟨hq, hoff⟩
 refine ⟨by simpa using hf, fun y hy => ?_, fun y hy => ?_⟩
 ·obtain ⟨h1, h2⟩ := hall y hy
  exact ⟨h1.1.far h2.1 hfar hsz, h1.2.far h2.2 hfar hsz⟩
 ·obtain ⟨h1, h2⟩ := hall y hy
  have key : ∀ (v : Value) (l : List Int), Ints w1 w1.heap.size .i64 v l → (∀ g', v.ownBlock = some g' → o.ownBlock ≠ some g') → ∀ g', v.ownBlock = some g' → (Value.slice (some ⟨g, 0, none⟩) (qs.length + 1) cap).ownBlock ≠ some g' := by
   intro v l hi hv g' hg' e
   have e2 : g = g' := by simpa [Value.ownBlock] using e
   subst e2
   rcases hat with e3 | e3
   ·exact hv _ hg' e3
   ·have := hi.lt hg'; omega
  exact ⟨key _ _ h1.1 h2.1, key _ _ h1.2 h2.2⟩
theorem LvsV.of_at {w0 w : World} {v : Value} {qs : List Lv} (h : LivesAt w0 v qs w) (hl : qs.length < 10000) : LvsV w w.heap.size v qs := by
 have h1 := h.fill.1
 rcases h1.2 with ⟨rfl, h0⟩ | ⟨g, cap, cur, rfl, hb, hg, hnc, _⟩
 ·exact ⟨none, 0, by rw [h0], by omega, hl, by rw [h0, List.eq_nil_of_length_eq_zero h0]; exact .none_, h.ok⟩
 ·exact ⟨some ⟨g, 0, none⟩, cap, rfl, hnc, hl, Reads.of_own h1, h.ok⟩
set_option maxHeartbeats 8000000 in
theorem Lives_own {v vt : Value} {l : List Rv} {t : List Int} {w : World} (hv : Evs w w.heap.size v l) (ht : Ints w w.heap.size .u64 vt t) (h9 : t.length < 9999) :
  Calls Tryz.prog 23 #[v, vt] w fun e w' => ∃ v' qs, e = .returned v' ∧ LivesAt w v' qs w' ∧ LivesUp l t t.length qs := by
 have hO := fun (h : Int) (W : World) (hb : Below w.heap.size w W) => Of_any h ((hv.below hb).more hb.size)
 have HO := Lib.hid hO
 clear hO
 obtain ⟨A, c, rfl, hc, hl, hr⟩ := hv
 obtain ⟨A2, c2, rfl, hc2, hl2, hr2, _⟩ := ht
 have HR := Lib.hid hr2
 clear hr2
 go_enter Tryz.func23, Tryz.ntmps23
 go_wp2
 go_loopw [5,6] (fun o i wr => ∃ (qs : List Lv) (k : Nat), k ≤ t.length ∧ i = .int .i64 k ∧ Hid (LivesUp l t k qs) ∧ Hid (LivesAt w o qs wr)) (fun _ i _ => t.length - (intOf i).toNat)
 case atStart => exact ⟨[], 0, Nat.zero_le _, rfl, Lib.hid ⟨rfl, fun i h1 => by simp at h1⟩, Lib.hid ⟨⟨World.ownsRow_nil _ _ _ _, Below.refl _ _⟩, by simp, by simp⟩⟩
 case round =>
  obtain ⟨qs, k, hk, rfl, hU, hL⟩ := hrel
  by_cases hlt : k < t.length
  ·have hcell : Hid (w.cell? = w.cell?) := Lib.hid rfl
   obtain ⟨ad, u, rfl, hbl, hu, hcl⟩ := (HR.out.below hL.out.fill.2).at_ hlt
   have hu' : u = .int .u64 t[k] := by
    rw [List.getElem?_map, List.getElem?_eq_getElem hlt] at hu
    simpa using hu.symm
   subst hu'
   clear hu
   have HB := Lib.hid hbl
   clear hbl
   go_wp2_with fail
   refine (HO.out t[k] _ hL.out.fill.2).mono ?_
   rintro e w1 ⟨vr, vs, x, rfl, ⟨hi1, hi2⟩, ⟨hf1, hf2⟩, hlo, hb1⟩
   have HI1 := Lib.hid hi1
   have HI2 := Lib.hid hi2
   have HF := Lib.hid (And.intro hf1 hf2)
   have HLo := Lib.hid hlo
   have HB1 := Lib.hid hb1
   obtain ⟨A3, c3, rfl, _, _, _, _⟩ := hi1
   obtain ⟨A4, c4, rfl, _, _, _, _⟩ := hi2
   clear hf1 hf2 hlo hb1
   have hql : qs.length < 1000000 := by have := hU.out.1; omega
   go_wp2_with (at_builtin; refine wpList_growF rfl (.tmp 13) (.tmp 20) 80 rfl 83 4 64 _ Tryz.underlying80 info_83 rfl (by decide) (by decide) (hL.out.fill.far HB1.out) (by omega) rfl [.int .i64 x.bg, .int .i64 x.en, .slice A3 x.rs.length c3, .slice A4 x.ws.length c4] rfl (by simp [Value.oneCell']) _ rfl ?_; intro g cap w2 hf hfar hat hsz; have HF2 := Lib.hid hf; have HFar := Lib.hid hfar; have HAt := Lib.hid hat; have HSz := Lib.hid hsz; clear hf hfar hat hsz)
   go_roundw
   case rel =>
    refine ⟨qs ++ [⟨x, .slice A3 x.rs.length c3, .slice A4 x.ws.length c4⟩], k + 1, by omega, by go_num, Lib.hid ⟨by simp [hU.out.1], fun i h1 h2 => ?_⟩, Lib.hid (by simpa using hL.out.push HB1.out (q := ⟨x, .slice A3 x.rs.length c3, .slice A4 x.ws.length c4⟩) ⟨HI1.out, HI2.out⟩ HF.out HF2.out HFar.out HAt.out HSz.out)⟩
    rcases Nat.lt_or_ge i qs.length with h3 | h3
    ·rw [List.getElem_append_left h3]; exact hU.out.2 i h3 h2
    ·have h4 : i = k := by simp at h1; have := hU.out.1; omega
     subst h4
     have h5 := hU.out.1
     simp only [List.getElem_append_right h3]
     simpa [h5] using HLo.out
   case measure => simp [intOf] <;> omega
  ·have hkl : k = t.length := by omega
   have HKL := Lib.hid hkl
   clear hkl
   go_wp2
   go_ret
   exact ⟨_, qs, rfl, hL.out, HKL.out ▸ hU.out⟩
theorem Lives_any {v vt : Value} {l : List Rv} {t : List Int} {w : World} (hv : Evs w w.heap.size v l) (ht : Ints w w.heap.size .u64 vt t) (h9 : t.length < 9999) :
  Calls Tryz.prog 23 #[v, vt] w fun e w' => ∃ v' qs, e = .returned v' ∧ LvsV w' w'.heap.size v' qs ∧ LivesUp l t t.length qs ∧ Below w.heap.size w w' :=
 (Lives_own hv ht h9).mono (by rintro e w' ⟨v', qs, rfl, h1, h2⟩; exact ⟨v', qs, rfl, LvsV.of_at h1 (by have := h2.1; omega), h2, h1.fill.2⟩)
theorem info_22 : (Tryz.prog.info? 22).map (fun i => (i.zero, i.size, i.bytes)) = some (some (.int .u64 0), 1, 8) := by kernel_rfl
theorem Ints.of_row {w w0 : World} {κ : IntKind} {e : TypeId} {v : Value} {out : List Int} (h : Fill w0 e 1 v out.length (out.map (Value.int κ)) w) (hl : out.length < 1000000) : Ints w w.heap.size κ v out := by
 have h1 := h.1
 rcases h1.2 with ⟨rfl, h0⟩ | ⟨g, cap, cur, rfl, hb, hg, hnc, _⟩
 ·exact ⟨none, 0, by rw [h0], by omega, hl, by rw [h0, List.eq_nil_of_length_eq_zero h0]; exact .none_, fun a ha => by cases ha⟩
 ·refine ⟨some ⟨g, 0, none⟩, cap, rfl, hnc, hl, Reads.of_own h1, fun a ha => ?_⟩
  cases ha
  rcases Nat.lt_or_ge g w.heap.size with hlt | hge
  ·exact hlt
  ·rw [Array.getElem?_eq_none hge] at hg; cases hg
theorem nodup_le {α : Type} [DecidableEq α] : ∀ (l m : List α), l.Nodup → (∀ x ∈ l, x ∈ m) → l.length ≤ m.length
 | [], m, _, _ => Nat.zero_le _
 | x :: l, m, hn, hs => by
  have hx : x ∈ m := hs x (List.mem_cons_self ..)
  have h1 := nodup_le l (m.erase x) (List.nodup_cons.1 hn).2 fun y hy => (List.mem_erase_of_ne (fun e => (List.nodup_cons.1 hn).1 (by rw [← e]; exact hy))).2 (hs y (List.mem_cons_of_mem _ hy))
  have h2 := List.length_erase_of_mem hx
  have h3 : 0 < m.length := List.length_pos_of_mem hx
  simp only [List.length_cons]
  omega
def tikB (x : Rv) : Bool := (x.bg != 0) && ((x.kd == 2) || (x.kd == 3))
def SomeUp (l : List Rv) (k : Nat) (s : List Int) : Prop := (∀ x ∈ l.take k, tikB x = true → x.h ∈ s) ∧ (∀ y ∈ s, ∃ x ∈ l, x.h = y) ∧ s.Nodup ∧ s.length ≤ k
theorem SomeUp.old {l : List Rv} {k : Nat} {s : List Int} (f : SomeUp l k s) (hk : k < l.length) (h : tikB l[k] = true → l[k].h ∈ s) : SomeUp l (k + 1) s := by
 refine ⟨fun x hx ht => ?_, f.2.1, f.2.2.1, by have := f.2.2.2; omega⟩
 rw [List.take_succ_eq_append_getElem hk] at hx
 rcases List.mem_append.1 hx with hx | hx
 ·exact f.1 x hx ht
 ·rw [List.mem_singleton] at hx; subst hx; exact h ht
theorem SomeUp.new {l : List Rv} {k : Nat} {s : List Int} (f : SomeUp l k s) (hk : k < l.length) (h : inB s l[k].h = false) : SomeUp l (k + 1) (s ++ [l[k].h]) := by
 refine ⟨fun x hx ht => ?_, fun y hy => ?_, ?_, by have := f.2.2.2; simp; omega⟩
 ·rw [List.take_succ_eq_append_getElem hk] at hx
  rcases List.mem_append.1 hx with hx | hx
  ·exact List.mem_append_left _ (f.1 x hx ht)
  ·rw [List.mem_singleton] at hx; subst hx; exact List.mem_append_right _ (List.mem_singleton.2 rfl)
 ·rcases List.mem_append.1 hy with hy | hy
  ·exact f.2.1 y hy
  ·rw [List.mem_singleton] at hy; exact ⟨_, List.getElem_mem hk, hy.symm⟩
 ·rw [List.nodup_append]
  refine ⟨f.2.2.1, by simp, fun a ha b hb => ?_⟩
  rw [List.mem_singleton] at hb
  rintro rfl
  rw [hb] at ha
  rw [(inB_iff _ _).2 ha] at h; cases h
def OutUp (s o : List Int) : Prop := (∀ y ∈ o, y ∈ s) ∧ o.Nodup
def LeastUp (s o : List Int) (k : Nat) (m : Int) : Prop := (∀ y ∈ s.take k, y ∉ o → m ≤ y) ∧ (m = 18446744073709551615 ∨ m ∈ s ∧ m ∉ o)
theorem LeastUp.old {s o : List Int} {k : Nat} {m : Int} (f : LeastUp s o k m) (hk : k < s.length) (h : s[k] ∉ o → m ≤ s[k]) : LeastUp s o (k + 1) m := by
 refine ⟨fun y hy hn => ?_, f.2⟩
 rcases (take_mem hk y).1 hy with hy | rfl
 ·exact f.1 y hy hn
 ·exact h hn
theorem LeastUp.new {s o : List Int} {k : Nat} {m : Int} (f : LeastUp s o k m) (hk : k < s.length) (h1 : s[k] ∉ o) (h2 : s[k] < m) : LeastUp s o (k + 1) s[k] := by
 refine ⟨fun y hy hn => ?_, .inr ⟨List.getElem_mem hk, h1⟩⟩
 rcases (take_mem hk y).1 hy with hy | rfl
 ·have := f.1 y hy hn; omega
 ·exact Int.le_refl _
theorem OutUp.push {l : List Rv} {s o : List Int} {m : Int} (hs : SomeUp l l.length s) (hh : ∀ x ∈ l, x.h < 18446744073709551616) (f : OutUp s o) (hlt : o.length < s.length) (h : LeastUp s o s.length m) : OutUp s (o ++ [m]) := by
 have hex : ∃ y ∈ s, y ∉ o := by
  refine Classical.byContradiction fun hc => ?_
  have := nodup_le s o hs.2.2.1 fun x hx => Classical.byContradiction fun hn => hc ⟨x, hx, hn⟩
  omega
 obtain ⟨y, hy1, hy2⟩ := hex
 have hm : m ∈ s ∧ m ∉ o := by
  rcases h.2 with e | h2
  ·have h3 := h.1 y (by rw [List.take_of_length_le (Nat.le_refl _)]; exact hy1) hy2
   obtain ⟨x, hx, e2⟩ := hs.2.1 y hy1
   have h4 := hh x hx
   have h5 : m = y := by omega
   rw [h5]; exact ⟨hy1, hy2⟩
  ·exact h2
 refine ⟨fun z hz => ?_, ?_⟩
 ·rcases List.mem_append.1 hz with hz | hz
  ·exact f.1 z hz
  ·rw [List.mem_singleton] at hz; rw [hz]; exact hm.1
 ·rw [List.nodup_append]
  refine ⟨f.2, by simp, fun a ha b hb => ?_⟩
  rw [List.mem_singleton] at hb
  rintro rfl
  rw [hb] at ha
  exact hm.2 ha
def lenV : Value → Nat
 | .slice _ n _ => n
 | _ => 0
def TicketsOf (l : List Rv) (t : List Int) : Prop := (∀ x ∈ l, tikB x = true → x.h ∈ t) ∧ t.length ≤ l.length
theorem has_at {v : Value} {l : List Int} {x : Int} {w : World} {B : Nat} {r : Bool} (h : Ints w B .u64 v l) (e : inB l x = r) :
  Calls Tryz.prog 52 #[v, .int .u64 x] w fun e w' => e = .returned (.bool r) ∧ w = w' :=
 (has_any x h).mono (by rintro e w' ⟨rfl, rfl⟩; rw [e]; exact ⟨rfl, rfl⟩)
set_option maxHeartbeats 8000000 in
theorem Tickets_any {v : Value} {l : List Rv} {w : World} (hv : Evs w w.heap.size v l) (hh : ∀ x ∈ l, x.h < 18446744073709551616) :
  Calls Tryz.prog 22 #[v] w fun e w' => ∃ v' t, e = .returned v' ∧ Ints w' w'.heap.size .u64 v' t ∧ TicketsOf l t ∧ Below w.heap.size w w' := by
 obtain ⟨A, c, rfl, hc, hl, hr⟩ := hv
 have HR := Lib.hid hr
 have HH := Lib.hid hh
 clear hr hh
 go_enter Tryz.func22, Tryz.ntmps22
 go_wp2
 go_loopw [3,4] (fun o i wr => ∃ (s : List Int) (k : Nat), k ≤ l.length ∧ i = .int .i64 k ∧ Hid (SomeUp l k s) ∧ Hid (Fill w 22 1 o s.length (s.map (Value.int .u64)) wr)) (fun _ i _ => l.length - (intOf i).toNat)
 case atStart => exact ⟨[], 0, Nat.zero_le _, rfl, Lib.hid ⟨by simp, by simp, by simp, Nat.le_refl _⟩, Lib.hid ⟨World.ownsRow_nil _ _ _ _, Below.refl _ _⟩⟩
 case round =>
  obtain ⟨s, k, hk, rfl, hS, hF⟩ := hrel
  have hsl : s.length < 100000 := by have := hS.out.2.2.2; omega
  by_cases hlt : k < l.length
  ·obtain ⟨ad, rfl, hbl, c0, c1, c2, c3, c4, c5, c6, c7, c8, c9⟩ := ev_at (HR.out.below hF.out.2) hlt
   have HL := Lib.hid hbl
   clear hbl
   have HI := Lib.hid (Ints.of_row hF.out (by omega))
   rcases Bool.eq_false_or_eq_true (l[k].bg != 0) with h1 | h1
   ·rcases Bool.eq_false_or_eq_true (l[k].kd == 2) with h2 | h2
    ·cases g4 : inB s l[k].h with
     | true =>
      have E := Lib.hid g4
      clear g4
      have hn : Hid (tikB l[k] = true → l[k].h ∈ s) := Lib.hid (fun _ => (inB_iff _ _).1 E.out)
      go_wp2_with (go_at_call 52; refine (has_at HI.out E.out).mono ?_; rintro e w' ⟨rfl, rfl⟩)
      go_roundw
      case rel => exact ⟨s, k + 1, by omega, by go_num, Lib.hid (hS.out.old hlt hn.out), hF⟩
      case measure => simp [intOf] <;> omega
     | false =>
      have E := Lib.hid g4
      clear g4
      go_wp2_with (first | (go_at_call 52; refine (has_at HI.out E.out).mono ?_; rintro e w' ⟨rfl, rfl⟩) | (at_builtin; refine wpList_grow rfl (.tmp 49) (.tmp 56) 78 rfl 22 1 8 _ Tryz.underlying78 info_22 rfl (by decide) (by decide) hF.out (by omega) rfl [.int .u64 l[k].h] rfl (by simp [Value.oneCell']) _ rfl ?_; intro g cap w1 hf1))
      go_roundw
      case rel => exact ⟨s ++ [l[k].h], k + 1, by omega, by go_num, Lib.hid (hS.out.new hlt E.out), Lib.hid (by simpa using hf1)⟩
      case measure => simp [intOf] <;> omega
    ·rcases Bool.eq_false_or_eq_true (l[k].kd == 3) with h3 | h3
     ·cases g4 : inB s l[k].h with
      | true =>
       have E := Lib.hid g4
       clear g4
       have hn : Hid (tikB l[k] = true → l[k].h ∈ s) := Lib.hid (fun _ => (inB_iff _ _).1 E.out)
       go_wp2_with (go_at_call 52; refine (has_at HI.out E.out).mono ?_; rintro e w' ⟨rfl, rfl⟩)
       go_roundw
       case rel => exact ⟨s, k + 1, by omega, by go_num, Lib.hid (hS.out.old hlt hn.out), hF⟩
       case measure => simp [intOf] <;> omega
      | false =>
       have E := Lib.hid g4
       clear g4
       go_wp2_with (first | (go_at_call 52; refine (has_at HI.out E.out).mono ?_; rintro e w' ⟨rfl, rfl⟩) | (at_builtin; refine wpList_grow rfl (.tmp 49) (.tmp 56) 78 rfl 22 1 8 _ Tryz.underlying78 info_22 rfl (by decide) (by decide) hF.out (by omega) rfl [.int .u64 l[k].h] rfl (by simp [Value.oneCell']) _ rfl ?_; intro g cap w1 hf1))
       go_roundw
       case rel => exact ⟨s ++ [l[k].h], k + 1, by omega, by go_num, Lib.hid (hS.out.new hlt E.out), Lib.hid (by simpa using hf1)⟩
       case measure => simp [intOf] <;> omega
     ·have hn : Hid (tikB l[k] = true → l[k].h ∈ s) := Lib.hid (by unfold tikB; rw [h2, h3]; simp)
      go_wp2
      go_roundw
      case rel => exact ⟨s, k + 1, by omega, by go_num, Lib.hid (hS.out.old hlt hn.out), hF⟩
      case measure => simp [intOf] <;> omega
   ·have hn : Hid (tikB l[k] = true → l[k].h ∈ s) := Lib.hid (by unfold tikB; rw [h1]; simp)
    go_wp2
    go_roundw
    case rel => exact ⟨s, k + 1, by omega, by go_num, Lib.hid (hS.out.old hlt hn.out), hF⟩
    case measure => simp [intOf] <;> omega
  ·have hkl : k = l.length := by omega
   subst hkl
   clear hlt
   have HI := Lib.hid (Ints.of_row hF.out (by omega))
   have HIr := HI.out
   obtain ⟨A0, c0, rfl, hc0, hl0, hr0, _⟩ := HIr
   have HR0 := Lib.hid hr0
   clear hr0
   go_wp2
   go_loopw [5,6,7] (fun o m i wr2 => ∃ (out : List Int), Hid (OutUp s out) ∧ out.length ≤ s.length ∧ Hid (Fill wr 22 1 o out.length (out.map (Value.int .u64)) wr2)) (fun o _ _ _ => s.length - lenV o)
   case atStart => exact ⟨[], Lib.hid ⟨by simp, by simp⟩, Nat.zero_le _, Lib.hid ⟨World.ownsRow_nil _ _ _ _, Below.refl _ _⟩⟩
   case round =>
    obtain ⟨out, hO, hol, hF2⟩ := hrel
    have HI5 := Lib.hid (Ints.of_row hF2.out (by omega))
    have HI5r := HI5.out
    obtain ⟨A5, c5, rfl, hc5, hl5, _, _⟩ := HI5r
    by_cases hlt : out.length < s.length
    ·go_wp2
     go_loop [6,7] (fun m i => ∃ (mm : Int) (k : Nat), k ≤ s.length ∧ m = .int .u64 mm ∧ i = .int .i64 k ∧ Hid (LeastUp s out k mm)) (fun _ i => s.length - (intOf i).toNat)
     case atStart => exact ⟨18446744073709551615, 0, Nat.zero_le _, rfl, rfl, Lib.hid ⟨by simp, .inl rfl⟩⟩
     case round =>
      obtain ⟨mm, k, hk, rfl, rfl, hU⟩ := hrel
      by_cases hlk : k < s.length
      ·obtain ⟨ad, u, rfl, hbl, hu, hcl⟩ := (HR0.out.below hF2.out.2).at_ hlk
       have hu' : u = .int .u64 s[k] := by
        rw [List.getElem?_map, List.getElem?_eq_getElem hlk] at hu
        simpa using hu.symm
       subst hu'
       clear hu
       have HB := Lib.hid hbl
       clear hbl
       cases g4 : inB out s[k] with
       | true =>
        have E := Lib.hid g4
        clear g4
        go_wp2_with (go_at_call 52; refine (has_at HI5.out E.out).mono ?_; rintro e w' ⟨rfl, rfl⟩)
        go_round
        case rel => exact ⟨mm, k + 1, by omega, rfl, by go_num, Lib.hid (hU.out.old hlk fun hn => (hn ((inB_iff _ _).1 E.out)).elim)⟩
        case measure => simp [intOf] <;> omega
       | false =>
        have E := Lib.hid g4
        clear g4
        rcases Bool.eq_false_or_eq_true (decide (s[k] < mm)) with h5 | h5
        ·have HLt := Lib.hid h5
         go_wp2_with (go_at_call 52; refine (has_at HI5.out E.out).mono ?_; rintro e w' ⟨rfl, rfl⟩)
         go_round
         case rel => exact ⟨s[k], k + 1, by omega, rfl, by go_num, Lib.hid (hU.out.new hlk (fun hn => by rw [(inB_iff _ _).2 hn] at E; cases E.out) (of_decide_eq_true HLt.out))⟩
         case measure => simp [intOf] <;> omega
        ·have HLt := Lib.hid h5
         go_wp2_with (go_at_call 52; refine (has_at HI5.out E.out).mono ?_; rintro e w' ⟨rfl, rfl⟩)
         go_round
         case rel => exact ⟨mm, k + 1, by omega, rfl, by go_num, Lib.hid (hU.out.old hlk fun _ => by have := of_decide_eq_false HLt.out; omega)⟩
         case measure => simp [intOf] <;> omega
      ·have hkl : k = s.length := by omega
       have HKL := Lib.hid hkl
       clear hkl
       have HLt := Lib.hid hlt
       go_wp2_with (at_builtin; refine wpList_grow rfl (.tmp 88) (.tmp 90) 78 rfl 22 1 8 _ Tryz.underlying78 info_22 rfl (by decide) (by decide) hF2.out (by omega) rfl [.int .u64 mm] rfl (by simp [Value.oneCell']) _ rfl ?_; intro g cap w1 hf1)
       go_roundw
       case rel => exact ⟨out ++ [mm], Lib.hid (OutUp.push hS.out HH.out hO.out HLt.out (by have := hU.out; rw [HKL.out] at this; exact this)), by simp; omega, Lib.hid (by simpa using hf1)⟩
       case measure => simp [lenV]; omega
    ·go_wp2
     go_ret
     have hln : out.length = s.length := by omega
     refine ⟨_, out, rfl, HI5.out, ⟨fun x hx ht => ?_, by have := hS.out.2.2.2; omega⟩, below_then hF.out.2 hF2.out.2⟩
     have h1 : x.h ∈ s := hS.out.1 x (by rw [List.take_of_length_le (Nat.le_refl _)]; exact hx) ht
     refine Classical.byContradiction fun hn => ?_
     have h2 := nodup_le (x.h :: out) s (List.nodup_cons.2 ⟨hn, hO.out.2⟩) fun y hy => by
      rcases List.mem_cons.1 hy with rfl | hy
      ·exact h1
      ·exact hO.out.1 y hy
     simp at h2
     omega
def TikIn (l : List Rv) (x : Int) : Prop := ∃ e ∈ l, tikB e = true ∧ e.h = x
def TripOf (l : List Rv) (h : Int) : Prop :=
 ∃ x p y, TikIn l x ∧ TikIn l p ∧ TikIn l y ∧ p ≠ x ∧ p ≠ y ∧ (x = h ∨ p = h ∨ y = h) ∧ ∀ A P Y, LifeOf l x A → LifeOf l p P → LifeOf l y Y → cnfB A P = true ∧ cnfB P Y = true
def RivalOf (l : List Rv) (h κ : Int) : Prop :=
 ∃ x, TikIn l x ∧ x ≠ h ∧ ∀ A O, LifeOf l x A → LifeOf l h O → metB A O = true ∧ inB A.ws κ = true
def ApartOf (l : List Rv) : Prop :=
 ∀ x y, TikIn l x → TikIn l y → x ≠ y → ∃ A Y, LifeOf l x A ∧ LifeOf l y Y ∧ cnfB A Y = false
end Go.Proofs.YtfinmiakbpmjiaaGreat.Re
