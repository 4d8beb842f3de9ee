/-
  The bounds of its world.
-/
import Derived.Test.YtfinmiakbpmjiaaGreatWoK
import Derived.Test.YtfinmiakbpmjiaaGreatAlA
set_option linter.unusedSimpArgs false
set_option linter.unusedVariables false
set_option maxRecDepth 100000
namespace Go.Proofs.YtfinmiakbpmjiaaGreat.Um
open Go Go.RowKit Go.Proofs.YtfinmiakbpmjiaaGreat Go.Proofs.YtfinmiakbpmjiaaGreat.Ax
theorem Config_any {c : Cfg} {mb wb : Nat} {M : Spot → Nat} {cnt : Nat} {w : World} (h : MemAt w mb wb c M cnt) : Calls Tryz.prog 50 #[.pointer (some ⟨mb, 0, none⟩)] w fun e w' => e = .returned c.val ∧ Below w.heap.size w w' := by
 obtain ⟨hr, hne, ⟨a, b, d, o, n, e, hbx⟩, -⟩ := h
 obtain ⟨T, S, K, L, Q⟩ := c
 unfold memV at hbx
 simp only at hbx
 have b1 := blk_alloc hbx (.cells #[.int .i64 0, .int .i64 0, .int .i64 0, .int .i64 0, .int .u64 0] 24)
 have d0 := blk_cell b1 0
 have d1 := blk_cell b1 1
 have d2 := blk_cell b1 2
 have d3 := blk_cell b1 3
 have d4 := blk_cell b1 4
 simp at d0 d1 d2 d3 d4
 clear hr
 go_enter Tryz.func50, Tryz.ntmps50
 go_wp2
 refine bodyPost_ret (results_cell_row rfl _ _ w.heap.size 24 #[.int .i64 T, .int .i64 S, .int .i64 K, .int .i64 L, .int .u64 Q] (0, 0) _ rfl (blk_new w _) Tryz.underlying24 rfl (by kernel_rfl)) rfl ⟨rfl, ?_⟩
 exact below_alloc (Below.refl _ _) _
theorem Spot.at_all {c : Cfg} (hc : c.right) {i : Int} (h0 : 0 ≤ i) (h1 : i < c.len) : ∃ s : Spot, s.ok c ∧ s.at c = i := by
 obtain ⟨a1, a2, a3, a4, a5, a6, a7, a8, a9, a10⟩ := hc
 unfold Cfg.len at h1
 by_cases e0 : i = 0
 ·exact ⟨.tally, trivial, by simp [Spot.at, e0]⟩
 by_cases e1 : i = 1
 ·exact ⟨.epoch, trivial, by simp [Spot.at, e1]⟩
 by_cases e2 : i < 2 + c.T
 ·exact ⟨.pin (i - 2).toNat, by simp only [Spot.ok]; omega, by simp only [Spot.at]; omega⟩
 by_cases e3 : i < 2 + c.T + 4 * c.S
 ·obtain ⟨j, hj⟩ : ∃ j : Int, j = i - 2 - c.T := ⟨_, rfl⟩
  rcases (by omega : j % 4 = 0 ∨ j % 4 = 1 ∨ j % 4 = 2 ∨ j % 4 = 3) with h | h | h | h
  ·exact ⟨.status (j / 4).toNat, by simp only [Spot.ok]; omega, by simp only [Spot.at]; omega⟩
  ·exact ⟨.snapshot (j / 4).toNat, by simp only [Spot.ok]; omega, by simp only [Spot.at]; omega⟩
  ·exact ⟨.number (j / 4).toNat, by simp only [Spot.ok]; omega, by simp only [Spot.at]; omega⟩
  ·exact ⟨.retired (j / 4).toNat, by simp only [Spot.ok]; omega, by simp only [Spot.at]; omega⟩
 ·exact ⟨.key (i - 2 - c.T - 4 * c.S).toNat, by simp only [Spot.ok]; omega, by simp only [Spot.at]; omega⟩
set_option maxHeartbeats 1000000 in
theorem Cells_any {c : Cfg} {mb wb : Nat} {M : Spot → Nat} {cnt : Nat} {w : World} (h : MemAt w mb wb c M cnt) (N : Nat) (hN : c.len = (N : Int)) (hN2 : N ≤ 100) : Calls Tryz.prog 51 #[.pointer (some ⟨mb, 0, none⟩)] w fun e w' =>
  ∃ (nb : Nat) (ws : Array Value), e = .returned (.slice (some ⟨nb, 0, none⟩) N N) ∧ w'.heap[nb]? = some (.cells ws 22 (0, 0)) ∧ ws.size = N ∧ (∀ s : Spot, s.ok c → ws[(s.at c).toNat]? = some (.int .u64 (M s : Int))) ∧ Below w.heap.size w w' ∧ w.heap.size ≤ nb := by
 obtain ⟨hr, hne, ⟨a, b, d, o, n, e, hbx⟩, ws, hws, hsz, hM⟩ := h
 unfold memV at hbx
 rw [hN] at hbx hsz
 simp only [Int.toNat_natCast] at hbx hsz
 have HM := Lib.hid (And.intro hM hsz)
 have hmk := mk_u64 N hN2
 have x5 := blk_cell hbx 5
 have b1 := blk_alloc hbx (.cells (madeCells #[.int .u64 0] N) 22)
 have b2 := blk_alloc hws (.cells (madeCells #[.int .u64 0] N) 22)
 have y5 := blk_cell b1 5
 simp at x5 y5
 have hcp := run_copy_row (P := Tryz.prog) (w.alloc (.cells (madeCells #[.int .u64 0] N) 22)) 78 78 3 22 w.heap.size 0 N N ⟨wb, 0, none⟩ N N (madeCells #[.int .u64 0] N) 22 ws.toList (by kernel_rfl) (by kernel_rfl) (blk_new w _) (by simp [hsz])
  (by
   intro j v hj
   rw [show (Addr.add ⟨wb, 0, none⟩ j) = ⟨wb, j, none⟩ by simp [Addr.add]; omega]
   exact (blk_cell b2 j).trans (by rw [← Array.getElem?_toList]; exact hj))
  (by rw [size_madeCells]; simp [hsz]) (by
   intro v hv
   obtain ⟨j, hj, rfl⟩ := List.getElem_of_mem hv
   have hj2 : j < N := by simpa [hsz] using hj
   obtain ⟨s, hs1, hs2⟩ := Spot.at_all (c := c) hr (i := (j : Int)) (by omega) (by rw [hN]; omega)
   have := hM s hs1
   rw [hs2, Int.toNat_natCast, ← Array.getElem?_toList, List.getElem?_eq_getElem hj] at this
   rw [Option.some.inj this]
   rfl)
 rw [show (List.take 0 (madeCells #[Value.int .u64 0] N).toList ++ ws.toList ++ List.drop (0 + ws.toList.length) (madeCells #[Value.int .u64 0] N).toList).toArray = ws by
  rw [List.take_zero, List.nil_append, List.drop_eq_nil_of_le (by simp [size_madeCells, hsz]), List.append_nil]] at hcp
 unfold goInt at hcp
 rw [show ((ws.toList.length : Nat) : Int) = (N : Int) by simp [hsz]] at hcp
 have z1 : ((w.alloc (.cells (madeCells #[.int .u64 0] N) 22)).setRow w.heap.size ws).heap[w.heap.size]? = _ := setRow_heap _ _ _ ws 22 _ (blk_new w _)
 have HB2 : Below w.heap.size w ((w.alloc (.cells (madeCells #[.int .u64 0] N) 22)).setRow w.heap.size ws) := below_setRow (below_alloc (Below.refl _ _) _) (Nat.le_refl _) _
 generalize (w.alloc (.cells (madeCells #[.int .u64 0] N) 22)).setRow w.heap.size ws = W4 at *
 have HH := Lib.hid (And.intro z1 HB2)
 clear z1 HB2 hbx hws b1 b2 hM hr hN hsz
 go_enter Tryz.func51, Tryz.ntmps51
 go_wp2_with fail
 go_ret
 exact ⟨w.heap.size, ws, rfl, HH.out.1, HM.out.2, HM.out.1, HH.out.2, Nat.le_refl _⟩
end Go.Proofs.YtfinmiakbpmjiaaGreat.Um
namespace Go.Proofs.YtfinmiakbpmjiaaGreat.Um
open Go Go.RowKit Go.Proofs.YtfinmiakbpmjiaaGreat Go.Proofs.YtfinmiakbpmjiaaGreat.Ay
open Go.Proofs.YtfinmiakbpmjiaaGreat.Ax (pt vi vu)
def WordsIn (c : Cfg) (M : Mm) (N nb : Nat) (w : World) : Prop := ∃ ws : Array Value, w.heap[nb]? = some (.cells ws 22 (0, 0)) ∧ ws.size = N ∧ ∀ x : Spot, x.ok c → ws[(x.at c).toNat]? = some (.int .u64 (M x : Int))
def sideC (c : Cfg) (mb wb : Nat) (M : Mm) (cnt N : Nat) : Side :=
  { E := Option Nat, I := fun e w F => MemAt w mb wb c M cnt ∧ mb ∈ F ∧ wb ∈ F ∧ ∀ nb, e = some nb → nb ∈ F ∧ nb ≠ mb ∧ nb ≠ wb ∧ WordsIn c M N nb w,
    stable := fun e w w' L F h k hF => ⟨h.1.keep k (hF _ h.2.1) (hF _ h.2.2.1), h.2.1, h.2.2.1, fun nb he => ⟨(h.2.2.2 nb he).1, (h.2.2.2 nb he).2.1, (h.2.2.2 nb he).2.2.1, by
      obtain ⟨ws, h1, h2, h3⟩ := (h.2.2.2 nb he).2.2.2
      exact ⟨ws, k.blk (hF _ (h.2.2.2 nb he).1) h1, h2, h3⟩⟩⟩ }
section
variable {c : Cfg} {mb wb : Nat} {M : Mm} {cnt N : Nat}
def configC (c : Cfg) (mb wb : Nat) (M : Mm) (cnt N : Nat) : Array Value → St (sideC c mb wb M cnt N).E → Tree (Value × St (sideC c mb wb M cnt N).E) := fun args s => match args.toList with
  | [.pointer (some ⟨b, 0, none⟩)] => .same b mb (.done (c.val, s))
  | _ => .fail
def cellsC (c : Cfg) (mb wb : Nat) (M : Mm) (cnt N : Nat) : Array Value → St (sideC c mb wb M cnt N).E → Tree (Value × St (sideC c mb wb M cnt N).E) := fun args s => match args.toList with
  | [.pointer (some ⟨b, 0, none⟩)] => .same b mb (.fresh fun nb => .done (.slice (some ⟨nb, 0, none⟩) N N, { s with e := some nb }))
  | _ => .fail
def ofC (c : Cfg) (mb wb : Nat) (M : Mm) (cnt N : Nat) (v : Value) : Array Value → St (sideC c mb wb M cnt N).E → Tree (Value × St (sideC c mb wb M cnt N).E) := fun args s => match args.toList with
  | [a, .slice (some ⟨b, 0, none⟩) n m] => match s.e with
    | some nb => .same b nb (.ask (a = c.val) (.ask (n = N) (.ask (m = N) (.done (v, { s with e := none })))))
    | none => .fail
  | _ => .fail
theorem configC_ok : ExtOK (sideC c mb wb M cnt N) 50 (configC c mb wb M cnt N) := by
  intro L w0 pr PN args s w Q h hr
  unfold configC at h
  split at h
  · rename_i b hargs
    obtain ⟨rfl, h⟩ := h
    obtain ⟨F, hfo⟩ := hr.side
    rw [Ay.arr_of hargs]
    refine (Config_any hfo.inv.1).mono ?_
    rintro en w' ⟨rfl, hb⟩
    have ho : Only [] w w' := .of hb
    refine ⟨_, _, rfl, h, ?_⟩
    exact turnD hr hfo (F' := F) ((sideC c _ wb M cnt N).stable s.e w w' [] F hfo.inv ho (by simp)) (ho.wide (by simp)) (fun b hb => .inl hb) (fun b hb' => Nat.lt_of_lt_of_le (hfo.foot b hb').1 ho.size) s.orc
  · exact h.elim
theorem cellsC_ok (hN : c.len = (N : Int)) (hN2 : N ≤ 100) : ExtOK (sideC c mb wb M cnt N) 51 (cellsC c mb wb M cnt N) := by
  intro L w0 pr PN args s w Q h hr
  unfold cellsC at h
  split at h
  · rename_i b hargs
    obtain ⟨rfl, h⟩ := h
    obtain ⟨F, hfo⟩ := hr.side
    rw [Ay.arr_of hargs]
    refine (Cells_any hfo.inv.1 N hN hN2).mono ?_
    rintro en w' ⟨nb, ws, rfl, h1, h2, h3, hb, hle⟩
    have ho : Only [] w w' := .of hb
    have hi := (sideC c _ wb M cnt N).stable s.e w w' [] F hfo.inv ho (by simp)
    refine ⟨_, _, rfl, h nb, ?_⟩
    refine turnD hr hfo (F' := nb :: F) ⟨hi.1, List.mem_cons_of_mem _ hi.2.1, List.mem_cons_of_mem _ hi.2.2.1, fun x hx => ?_⟩ (ho.wide (by simp)) (fun b hb => ?_) (fun b hb' => ?_) s.orc
    · cases hx
      have hm := hfo.foot _ hfo.inv.2.1
      have hw := hfo.foot _ hfo.inv.2.2.1
      exact ⟨List.mem_cons_self, by omega, by omega, ws, h1, h2, h3⟩
    · rcases List.mem_cons.1 hb with rfl | hb
      · exact .inr hle
      · exact .inl hb
    · rcases List.mem_cons.1 hb' with rfl | hb'
      · exact blk_lt h1
      · exact Nat.lt_of_lt_of_le (hfo.foot b hb').1 ho.size
  · exact h.elim
theorem ofC_ok {v : Value} (hO : ∀ (nb : Nat) (w : World), WordsIn c M N nb w → Calls Tryz.prog 49 #[c.val, .slice (some ⟨nb, 0, none⟩) N N] w fun en w' => en = .returned v ∧ Only [nb] w w') : ExtOK (sideC c mb wb M cnt N) 49 (ofC c mb wb M cnt N v) := by
  intro L w0 pr PN args s w Q h hr
  unfold ofC at h
  split at h
  · rename_i a b n m hargs
    split at h
    · rename_i nb he
      obtain ⟨rfl, rfl, rfl, rfl, h⟩ := h
      obtain ⟨F, hfo⟩ := hr.side
      rw [Ay.arr_of hargs]
      obtain ⟨hF, hn1, hn2, hW⟩ := hfo.inv.2.2.2 _ he
      refine (hO _ w hW).mono ?_
      rintro en w' ⟨rfl, hb⟩
      refine ⟨_, _, rfl, h, ?_⟩
      exact turnD hr hfo (F' := F) ⟨hfo.inv.1.keep hb (by simp; exact fun e => hn1 e.symm) (by simp; exact fun e => hn2 e.symm), hfo.inv.2.1, hfo.inv.2.2.1, fun x hx => by cases hx⟩ (hb.wide (by simpa using hF)) (fun b hb => .inl hb) (fun b hb' => Nat.lt_of_lt_of_le (hfo.foot b hb').1 hb.size) s.orc
    · exact h.elim
  · exact h.elim
def extM (c : Cfg) (mb wb : Nat) (M : Mm) (cnt N : Nat) (hN : c.len = (N : Int)) (hN2 : N ≤ 100) (v : Value) (hO : ∀ (nb : Nat) (w : World), WordsIn c M N nb w → Calls Tryz.prog 49 #[c.val, .slice (some ⟨nb, 0, none⟩) N N] w fun en w' => en = .returned v ∧ Only [nb] w w') : Ext (sideC c mb wb M cnt N) Tryz.prog :=
  extOf _ [(50, configC c mb wb M cnt N), (51, cellsC c mb wb M cnt N), (49, ofC c mb wb M cnt N v)] (by
    intro p hp
    simp at hp
    rcases hp with rfl | rfl | rfl
    · exact configC_ok
    · exact cellsC_ok hN hN2
    · exact ofC_ok hO)
end
def MA (M : Mm) : Prop := M .tally = 32 ∧ M .epoch = 0 ∧ M (.pin 0) = 0 ∧ M (.status 0) = 536870914 ∧ M (.snapshot 0) = 0 ∧ M (.number 0) = 2 ∧ M (.retired 0) = 0 ∧ M (.status 1) = 536875008 ∧ M (.snapshot 1) = 0 ∧ M (.number 1) = 1 ∧ M (.retired 1) = 0 ∧ M (.key 0) = 8193 ∧ M (.key 1) = 0
theorem words_A {M : Mm} (hM : MA M) {nb : Nat} {w : World} (h : WordsIn cA M 13 nb w) : w.heap[nb]? = some (.cells wsA 22 (0, 0)) := by
  obtain ⟨ws, h1, h2, h3⟩ := h
  obtain ⟨m0, m1, m2, m3, m4, m5, m6, m7, m8, m9, m10, m11, m12⟩ := hM
  have : ws = wsA := by
    apply Array.ext_getElem?
    intro i
    by_cases hi : i < 13
    · have k0 := h3 .tally trivial
      have k1 := h3 .epoch trivial
      have k2 := h3 (.pin 0) (by show ((0 : Nat) : Int) < 1; decide)
      have k3 := h3 (.status 0) (by show ((0 : Nat) : Int) < 2; decide)
      have k4 := h3 (.snapshot 0) (by show ((0 : Nat) : Int) < 2; decide)
      have k5 := h3 (.number 0) (by show ((0 : Nat) : Int) < 2; decide)
      have k6 := h3 (.retired 0) (by show ((0 : Nat) : Int) < 2; decide)
      have k7 := h3 (.status 1) (by show ((1 : Nat) : Int) < 2; decide)
      have k8 := h3 (.snapshot 1) (by show ((1 : Nat) : Int) < 2; decide)
      have k9 := h3 (.number 1) (by show ((1 : Nat) : Int) < 2; decide)
      have k10 := h3 (.retired 1) (by show ((1 : Nat) : Int) < 2; decide)
      have k11 := h3 (.key 0) (by show ((0 : Nat) : Int) < 2; decide)
      have k12 := h3 (.key 1) (by show ((1 : Nat) : Int) < 2; decide)
      rw [m0] at k0; rw [m1] at k1; rw [m2] at k2; rw [m3] at k3; rw [m4] at k4; rw [m5] at k5; rw [m6] at k6; rw [m7] at k7; rw [m8] at k8; rw [m9] at k9; rw [m10] at k10; rw [m11] at k11; rw [m12] at k12
      rcases (by omega : i = 0 ∨ i = 1 ∨ i = 2 ∨ i = 3 ∨ i = 4 ∨ i = 5 ∨ i = 6 ∨ i = 7 ∨ i = 8 ∨ i = 9 ∨ i = 10 ∨ i = 11 ∨ i = 12) with rfl | rfl | rfl | rfl | rfl | rfl | rfl | rfl | rfl | rfl | rfl | rfl | rfl
      · exact k0
      · exact k1
      · exact k2
      · exact k3
      · exact k4
      · exact k5
      · exact k6
      · exact k7
      · exact k8
      · exact k9
      · exact k10
      · exact k11
      · exact k12
    · rw [Array.getElem?_eq_none (by omega), Array.getElem?_eq_none (by show wsA.size ≤ i; have : wsA.size = 13 := rfl; omega)]
  rw [← this]
  exact h1
theorem of_A {M : Mm} (hM : MA M) (nb : Nat) (w : World) (h : WordsIn cA M 13 nb w) : Calls Tryz.prog 49 #[cA.val, .slice (some ⟨nb, 0, none⟩) 13 13] w fun en w' => en = .returned (.tuple #[.agg #[vi 0, vi 0, vi 2, vi 0], .bool true]) ∧ Only [nb] w w' := by
  have hb := words_A hM h
  refine (runs0 (of_run nb) (w := w) ⟨by simp, fun x hx => ?_⟩).mono ?_
  · simp at hx
    subst hx
    exact ⟨_, hb, .inl ⟨#[], by simp [Cells.arr], trivial⟩⟩
  · rintro en w' ⟨v, hp', rfl, rfl, h1, h2, h3⟩
    exact ⟨rfl, h2⟩
def extMA (mb wb : Nat) {M : Mm} (cnt : Nat) (hM : MA M) : Ext (sideC cA mb wb M cnt 13) Tryz.prog := extM cA mb wb M cnt 13 (by rfl) (by decide) _ (of_A hM)
theorem bw_run {M : Mm} (hM : MA M) (mb wb cnt wd : Nat) (a1 a2 : Value) : RunsY (sideC cA mb wb M cnt 13) 19 #[pt wd] [⟨wd, .vals #[pt mb, a1, a2], 77⟩] (none : Option Nat) fun v hp' _ => v = .agg #[vi 0, vi 0, vi 2, vi 0] :=
 runsY_of (extMA mb wb cnt hM) [17,0,0,4,8,12,16,0,24,28,32,36,40,0,23,24,21,45,49,52,56,62,69,2,2,2,2,74,2,2,2,2,1,1,1,1,1,1,1,1,47,23,45,49,52,56,62,69,2,2,2,2,74,2,2,2,2,1,1,1,1,1,1,1,1,51,22,49,52,56,62,69,2,2,2,2,74,2,2,2,2,1,1,1,1,1,1,1,1,52,56,62,65,69,2,2,2,2,74,2,2,2,2,1,1,1,1,1,1,1,1] [] (fun gs => .agg #[vi 0, vi 0, vi 2, vi 0]) (fun gs => []) (fun _ => none) (fun _ => [cA.val = cA.val, (13 : Nat) = 13, (13 : Nat) = 13]) (fun br gs => match br with | [] => by kernel_rfl | [true] => by kernel_rfl | [true, true] => by kernel_rfl | true :: true :: true :: _ => by kernel_rfl | true :: true :: false :: _ => by kernel_rfl | true :: false :: _ => by kernel_rfl | false :: _ => by kernel_rfl) (by decide) (fun _ => ⟨rfl, rfl, rfl, trivial⟩) fun gs => rfl
theorem BWorld_A {wd : Nat} {s : Wd} {w : World} {F : List Nat} (h : WorldAt cA wd s w F) (hM : MA s.M) : Calls Tryz.prog 19 #[.pointer (some ⟨wd, 0, none⟩)] w fun en w' => en = .returned (.agg #[vi 0, vi 0, vi 2, vi 0]) ∧ Only F w w' := by
 obtain ⟨mb, wb, wk, capw, tb, wl, evv, F0, h⟩ := h
 obtain ⟨m1, m2, m3, m4⟩ := h.mem
 obtain ⟨r, hr, -⟩ := h.box
 have hlt := blk_lt hr
 have hi := h.wi
 refine (bw_run hM mb wb s.n wd (.slice (some ⟨wk, 0, none⟩) cA.T.toNat capw) evv F w w ⟨⟨by simp, fun x hx => ?_⟩, ⟨F0, ⟨hi.1, hi.2.1, hi.2.2.1, fun nb he => by cases he⟩, fun x hx => ?_, fun b hb => ⟨h.lt b hb, .inl (m4 b hb)⟩⟩, .of (Below.refl _ _), fun x hx => ?_, by simp, by simp⟩).mono ?_
 ·simp at hx
  subst hx
  exact ⟨_, hr, .inl ⟨r, rfl, trivial⟩⟩
 ·simp at hx
  subst hx
  exact h.far.2.1
 ·simp at hx
  subst hx
  exact .inl m1
 ·rintro en w' ⟨v, hp', e', rfl, rfl, hr'⟩
  exact ⟨rfl, hr'.only⟩
end Go.Proofs.YtfinmiakbpmjiaaGreat.Um
