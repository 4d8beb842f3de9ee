/-
  The closed example, walked.
-/
import Derived.Test.YtfinmiakbpmjiaaGreatAlD
import Derived.Test.YtfinmiakbpmjiaaGreatWoO
import Derived.Test.YtfinmiakbpmjiaaGreatUwA
set_option linter.unusedSimpArgs false
set_option linter.unusedVariables false
set_option maxRecDepth 100000
namespace Go.Proofs.YtfinmiakbpmjiaaGreat.Um
open Go Go.RowKit Go.Proofs.YtfinmiakbpmjiaaGreat Go.Proofs.YtfinmiakbpmjiaaGreat.Ay
open Go.Proofs.YtfinmiakbpmjiaaGreat.Ax (pt vi vu)
def opsA : List (Int × Nat × Int) := [(1, 0, 0), (1, 0, 0), (2, 1, 0), (3, 2, 0), (4, 2, 0), (4, 1, 0)]
def sA : List (Int × Nat × Int) → Wd → Wd
 | [], s => s
 | (kd, h, k) :: r, s => sA r (picks cA (wstartZ cA s 0 kd h k).2 0 200)
theorem sA_idle : ∀ k, k < 6 → ((sA (opsA.take (k + 1)) w0).th 0).isIdle = true := by
 intro k hk
 rcases (by omega : k = 0 ∨ k = 1 ∨ k = 2 ∨ k = 3 ∨ k = 4 ∨ k = 5) with rfl | rfl | rfl | rfl | rfl | rfl <;> kernel_rfl
theorem sA_evs : (logR (sA opsA w0).evs).flatMap Re.Rv.cs = evsA.toList := by kernel_rfl
theorem sA_len : (logR (sA opsA w0).evs).length = 6 := by kernel_rfl
theorem sA_MA : MA (sA opsA w0).M := ⟨by kernel_rfl, by kernel_rfl, by kernel_rfl, by kernel_rfl, by kernel_rfl, by kernel_rfl, by kernel_rfl, by kernel_rfl, by kernel_rfl, by kernel_rfl, by kernel_rfl, by kernel_rfl, by kernel_rfl⟩
theorem below_only {n : Nat} {w w1 w2 : World} {L : List Nat} (h : Below n w w1) (hn : n ≤ w1.heap.size) (k : Only L w1 w2) (hL : ∀ x ∈ L, n ≤ x) : Below n w w2 :=
 ⟨k.os.trans h.os, k.tape.trans h.tape, k.output.trans h.output, Nat.le_trans h.size k.size, fun b hb => (k.block b (Nat.lt_of_lt_of_le hb hn) (fun hm => Nat.lt_irrefl _ (Nat.lt_of_lt_of_le hb (hL b hm)))).trans (h.block b hb)⟩
def Past (w w1 : World) : Prop := Below w.heap.size w w1
theorem Past.only {w w1 w2 : World} {L : List Nat} (h : Past w w1) (k : Only L w1 w2) (hL : ∀ x ∈ L, w.heap.size ≤ x) : Past w w2 := below_only h h.size k hL
theorem Past.below {w w1 w2 : World} (h : Past w w1) (k : Below w1.heap.size w1 w2) : Past w w2 := h.only (Only.of (L := []) k) (by simp)
theorem Past.world {wd : Nat} {s : Wd} {w w1 : World} {F : List Nat} (h : Past w w1) (k : WorldAt cA wd s w F) : WorldAt cA wd s w1 F := k.keep (Only.of (L := []) h) (by simp)
theorem row_ev {w : World} {n : Nat} {v : Value} (h : w.ownsRow n 70 10 v (logR (sA opsA w0).evs).length ((logR (sA opsA w0).evs).flatMap Re.Rv.cs)) : ∃ b cap : Nat, v = .slice (some ⟨b, 0, none⟩) 6 cap ∧ n ≤ b ∧ Has w [⟨b, .vals evsA, 70⟩] := by
 rw [sA_evs, sA_len] at h
 rcases h.2 with ⟨_, h0⟩ | ⟨g, cap, cur, rfl, hb, hg, hnc, hcm, hcs, hct⟩
 ·cases h0
 ·refine ⟨g, cap, rfl, hb, ⟨by simp, fun x hx => ?_⟩⟩
  cases List.mem_singleton.1 hx
  have hcur : cur = evsA ++ (cur.toList.drop 60).toArray := by
   apply Array.ext'
   rw [Array.toList_append, ← hct]
   simp
  refine ⟨_, hg, .inl ⟨(cur.toList.drop 60).toArray, ?_, trivial⟩⟩
  rw [← show cur = (Cells.vals evsA).arr ++ (cur.toList.drop 60).toArray from hcur]
theorem ev_call {wd : Nat} {w : World} {F : List Nat} (h : WorldAt cA wd (sA opsA w0) w F) : Calls Tryz.prog 8 #[.pointer (some ⟨wd, 0, none⟩)] w fun e w' => ∃ b cap : Nat, e = .returned (.slice (some ⟨b, 0, none⟩) 6 cap) ∧ w.heap.size ≤ b ∧ Has w' [⟨b, .vals evsA, 70⟩] ∧ Below w.heap.size w w' := by
 refine (Events_any h (by have := sA_len; rw [logR_len] at this; omega)).mono ?_
 rintro e w' ⟨v, rfl, hr, hb⟩
 obtain ⟨b, cap, rfl, h1, h2⟩ := row_ev hr
 exact ⟨b, cap, rfl, h1, h2, hb⟩
theorem from_call {w : World} {b cap : Nat} (h : Has w [⟨b, .vals evsA, 70⟩]) : Calls Tryz.prog 15 #[.slice (some ⟨b, 0, none⟩) 6 cap] w fun e w' => ∃ l lc wb wc rb rc : Nat, e = .returned (.slice (some ⟨l, 0, none⟩) 2 lc) ∧ Has w' [⟨l, .own #[vu 2, vu 0, vu 1, .slice none 0 0, .slice (some ⟨wb, 0, none⟩) 1 wc, vu 1, vu 0, vu 2, .slice (some ⟨rb, 0, none⟩) 1 rc, .slice none 0 0] lc 5, 60⟩, ⟨wb, .own #[vi 0] wc 1, 3⟩, ⟨rb, .own #[vi 0] rc 1, 3⟩] ∧ Only [b] w w' ∧ ∀ x ∈ [l, wb, rb], x = b ∨ w.heap.size ≤ x := by
 refine (runs0 (from_run b cap) h).mono ?_
 rintro e w' ⟨v, hp', rfl, ⟨l, lc, wb, wc, rb, rc, rfl, rfl⟩, hh, ho, hb⟩
 exact ⟨l, lc, wb, wc, rb, rc, rfl, hh, ho, by simpa using hb⟩
theorem serial_call {w : World} {l lc wb wc rb rc : Nat} (h : Has w [⟨l, .own #[vu 2, vu 0, vu 1, .slice none 0 0, .slice (some ⟨wb, 0, none⟩) 1 wc, vu 1, vu 0, vu 2, .slice (some ⟨rb, 0, none⟩) 1 rc, .slice none 0 0] lc 5, 60⟩, ⟨wb, .own #[vi 0] wc 1, 3⟩, ⟨rb, .own #[vi 0] rc 1, 3⟩]) : Calls Tryz.prog 16 #[.slice (some ⟨l, 0, none⟩) 2 lc] w fun e w' => e = .returned (.bool true) ∧ Only [l, wb, rb] w w' := by
 refine (runs0 (serial_run l lc wb wc rb rc) h).mono ?_
 rintro e w' ⟨v, hp', rfl, rfl, hh, ho, hb⟩
 exact ⟨rfl, ho⟩
theorem life1_call {w : World} {b cap : Nat} (h : Has w [⟨b, .vals evsA, 70⟩]) : Calls Tryz.prog 18 #[.slice (some ⟨b, 0, none⟩) 6 cap, .int .u64 1] w fun e w' => ∃ r rc : Nat, e = .returned (.agg #[.int .i64 1, .int .i64 71, .slice (some ⟨r, 0, none⟩) 1 rc, .slice none 0 0]) ∧ (⟨r, .own #[vi 0] rc 1, 3⟩ : Blk).holds w' ∧ Only [b] w w' ∧ (r = b ∨ w.heap.size ≤ r) := by
 refine (runs0 (life1_run b cap) h).mono ?_
 rintro e w' ⟨v, hp', rfl, ⟨r, rc, rfl, rfl⟩, hh, ho, hb⟩
 exact ⟨r, rc, rfl, hh.each _ (by simp), ho, by have := hb ⟨r, .own #[vi 0] rc 1, 3⟩ (by simp); simpa using this⟩
theorem life2_call {w : World} {b cap : Nat} (h : Has w [⟨b, .vals evsA, 70⟩]) : Calls Tryz.prog 18 #[.slice (some ⟨b, 0, none⟩) 6 cap, .int .u64 2] w fun e w' => ∃ r rc : Nat, e = .returned (.agg #[.int .i64 9, .int .i64 56, .slice none 0 0, .slice (some ⟨r, 0, none⟩) 1 rc]) ∧ (⟨r, .own #[vi 0] rc 1, 3⟩ : Blk).holds w' ∧ Only [b] w w' ∧ (r = b ∨ w.heap.size ≤ r) := by
 refine (runs0 (life2_run b cap) h).mono ?_
 rintro e w' ⟨v, hp', rfl, ⟨r, rc, rfl, rfl⟩, hh, ho, hb⟩
 exact ⟨r, rc, rfl, hh.each _ (by simp), ho, by have := hb ⟨r, .own #[vi 0] rc 1, 3⟩ (by simp); simpa using this⟩
theorem holds_only {x : Blk} {w w' : World} {L : List Nat} (h : x.holds w) (k : Only L w w') (hx : x.b ∉ L) : x.holds w' := by
 obtain ⟨o, h1, h2⟩ := h
 exact ⟨o, k.blk hx h1, h2⟩
theorem holds_lt {x : Blk} {w : World} (h : x.holds w) : x.b < w.heap.size := by
 obtain ⟨o, h1, h2⟩ := h
 exact blk_lt h1
theorem conf_call {w : World} {rb wb rc wc : Nat} (h1 : (⟨rb, .own #[vi 0] rc 1, 3⟩ : Blk).holds w) (h2 : (⟨wb, .own #[vi 0] wc 1, 3⟩ : Blk).holds w) (hne : rb ≠ wb) : Calls Tryz.prog 17 #[.agg #[.int .i64 1, .int .i64 71, .slice (some ⟨rb, 0, none⟩) 1 rc, .slice none 0 0], .agg #[.int .i64 9, .int .i64 56, .slice none 0 0, .slice (some ⟨wb, 0, none⟩) 1 wc]] w fun e w' => e = .returned (.bool true) ∧ Only [rb, wb] w w' := by
 have hh : Has w [⟨rb, .own #[vi 0] rc 1, 3⟩, ⟨wb, .own #[vi 0] wc 1, 3⟩] := ⟨by simp [hne], fun x hx => by
  simp at hx
  rcases hx with rfl | rfl
  ·exact h1
  ·exact h2⟩
 refine (runs0 (conf_run rb wb rc wc) hh).mono ?_
 rintro e w' ⟨v, hp', rfl, rfl, hh, ho, hb⟩
 exact ⟨rfl, ho⟩
theorem bw_call {wd : Nat} {w : World} {F : List Nat} (h : WorldAt cA wd (sA opsA w0) w F) : Calls Tryz.prog 19 #[.pointer (some ⟨wd, 0, none⟩)] w fun e w' => e = .returned (.agg #[.int .i64 0, .int .i64 0, .int .i64 2, .int .i64 0]) ∧ Only F w w' := BWorld_A h sA_MA
def opC : Array Value := #[vi 1, vu 0, vi 0, vi 1, vu 0, vi 0, vi 2, vu 1, vi 0, vi 3, vu 2, vi 0, vi 4, vu 2, vi 0, vi 4, vu 1, vi 0]
theorem op_at {w : World} {b : Nat} {t : TypeId} (h : w.heap[b]? = some (.cells opC t (0, 0))) {k : Nat} (hk : k < 6) : ∃ (kd : Int) (hh : Nat) (kk : Int), opsA[k]? = some (kd, hh, kk) ∧ hh < 18446744073709551616 ∧ w.cell? ⟨b, k * 3, none⟩ = some (.int .i64 kd) ∧ w.cell? ⟨b, k * 3 + 1, none⟩ = some (.int .u64 (hh : Int)) ∧ w.cell? ⟨b, k * 3 + 2, none⟩ = some (.int .i64 kk) := by
 have hc : ∀ i, w.cell? ⟨b, i, none⟩ = opC[i]? := fun i => blk_cell h i
 rcases (by omega : k = 0 ∨ k = 1 ∨ k = 2 ∨ k = 3 ∨ k = 4 ∨ k = 5) with rfl | rfl | rfl | rfl | rfl | rfl <;> exact ⟨_, _, _, rfl, by decide, (hc _).trans rfl, (hc _).trans rfl, (hc _).trans rfl⟩
theorem sA_snoc (x : Int × Nat × Int) : ∀ (l : List (Int × Nat × Int)) (s : Wd), sA (l ++ [x]) s = picks cA (wstartZ cA (sA l s) 0 x.1 x.2.1 x.2.2).2 0 200
 | [], _ => rfl
 | (a, b, c) :: l, s => by
  show sA (l ++ [x]) _ = _
  rw [sA_snoc x l]
  rfl
theorem sA_n {k : Nat} : ∀ (l : List (Int × Nat × Int)) (s : Wd), (sA l s).n ≤ s.n + 200 * l.length ∧ (sA l s).evs.length ≤ s.evs.length + l.length
 | [], s => by simp [sA]
 | (a, b, c) :: l, s => by
  have h1 := sA_n (k := k) l (picks cA (wstartZ cA s 0 a b c).2 0 200)
  have h2 := picks_n (c := cA) (id := 0) 200 (s := (wstartZ cA s 0 a b c).2)
  have h3 : (wstartZ cA s 0 a b c).2.n = s.n ∧ (wstartZ cA s 0 a b c).2.evs.length ≤ s.evs.length + 1 := by
   unfold wstartZ
   split
   ·unfold wstart
    split
    all_goals simp
   ·simp
  simp only [sA, List.length_cons]
  omega
theorem sA_reach : ∀ (l : List (Int × Nat × Int)) (s : Wd), Reach cA s → (∀ x ∈ l, x.2.1 < 18446744073709551616) → Reach cA (sA l s)
 | [], s, h, _ => h
 | (a, b, c) :: l, s, h, h2 => sA_reach l _ (picks_reach _ (reach_startZ h 0 a b c (h2 (a, b, c) (by simp)))) fun x hx => h2 x (by simp [hx])
theorem op_in {w : World} {ad : Addr} (h0 : ad.off = 0) (hs : ad.spot = none) (h : w.heap[ad.block]? = some (.cells opC 31 (0, 0))) {k : Nat} (hk : k < 6) : ∃ (kd : Int) (hh : Nat) (kk : Int), opsA[k]? = some (kd, hh, kk) ∧ hh < 18446744073709551616 ∧ w.cell? (ad.add (k * 3)) = some (.int .i64 kd) ∧ w.cell? ⟨(ad.add (k * 3)).block, (ad.add (k * 3)).off + 1, none⟩ = some (.int .u64 (hh : Int)) ∧ w.cell? ⟨(ad.add (k * 3)).block, (ad.add (k * 3)).off + 2, none⟩ = some (.int .i64 kk) := by
 obtain ⟨b, o, sp⟩ := ad
 simp only at h0 hs h
 subst h0 hs
 obtain ⟨kd, hh, kk, h1, h2, h3, h4, h5⟩ := op_at h hk
 have e : (Addr.add ⟨b, 0, none⟩ (k * 3)) = ⟨b, k * 3, none⟩ := by
  unfold Addr.add
  split
  ·rename_i h; rw [h]
  ·simp
 rw [e]
 exact ⟨kd, hh, kk, h1, h2, h3, h4, h5⟩
set_option maxHeartbeats 4000000 in
theorem Alive_ok (w : World) : Calls Tryz.prog 5 #[] w fun e w' => e = .returned (.bool true) ∧ Below w.heap.size w w' := by
 have hN := WNew_yes Ay.cA w Ay.cA_right
 unfold Cfg.val Ay.cA pt at hN
 simp only at hN
 have HN := hid hN
 clear hN
 go_enter Tryz.func5, Tryz.ntmps5
 go_wp2_with fail
 refine HN.out.mono ?_
 rintro e w1 ⟨wd, rfl, hb1, hl, F, hF, hF2⟩
 have HH := hid (And.intro hb1 (And.intro hl (And.intro hF hF2)))
 clear hb1 hl hF hF2
 go_wp2_with fail
 have hops := blk_new w1 (.cells opC 31)
 have hW := hid (show WorldAt Ay.cA wd w0 (w1.alloc (.cells opC 31)) F from HH.out.2.2.1.keep (L := []) (only_alloc w1 _) (by simp))
 have hB := hid (below_alloc HH.out.1 (.cells opC 31))
 have hF := hid (show ∀ x ∈ F, w.heap.size ≤ x ∧ x ≠ w1.heap.size from fun x hx => ⟨HH.out.2.2.2 x hx, fun h => by have := HH.out.2.2.1.all_lt x hx; omega⟩)
 have hdef : (Obj.cells #[.int .i64 1, .int .u64 0, .int .i64 0, .int .i64 1, .int .u64 0, .int .i64 0, .int .i64 2, .int .u64 1, .int .i64 0, .int .i64 3, .int .u64 2, .int .i64 0, .int .i64 4, .int .u64 2, .int .i64 0, .int .i64 4, .int .u64 1, .int .i64 0] 31) = .cells opC 31 := rfl
 rw [hdef]
 clear hdef
 generalize w1.alloc (.cells opC 31) = W1 at *
 obtain ⟨ad, had⟩ : ∃ ad : Addr, ad = ⟨w1.heap.size, 0, none⟩ := ⟨_, rfl⟩
 rw [← had]
 have HA := hid (show ad.off = 0 ∧ ad.spot = none ∧ ad.block = w1.heap.size by rw [had]; exact ⟨rfl, rfl, rfl⟩)
 have HO := hid (show W1.heap[ad.block]? = some (.cells opC 31 (0, 0)) by rw [had]; exact hops)
 clear hops had
 go_loopw [25] (fun i wr => ∃ (k : Nat) (F' : List Nat), i = .int .i64 (k : Int) ∧ k ≤ 6 ∧ Hid (WorldAt Ay.cA wd (sA (opsA.take k) w0) wr F' ∧ Below w.heap.size w wr ∧ (∀ x ∈ F', w.heap.size ≤ x ∧ x ≠ ad.block) ∧ wr.heap[ad.block]? = some (.cells opC 31 (0, 0)))) (fun i _ => 6 - (intOf i).toNat)
 case atStart => exact ⟨0, F, rfl, by omega, hid ⟨hW.out, hB.out, by rw [HA.out.2.2]; exact hF.out, HO.out⟩⟩
 case round =>
  obtain ⟨k, F', rfl, hk, hD⟩ := hrel
  by_cases hlt : k < 6
  ·obtain ⟨kd, hh, kk, hop, h64, c0, c1, c2⟩ := op_in HA.out.1 HA.out.2.1 hD.out.2.2.2 hlt
   have hlen : (opsA.take k).length ≤ 6 := by simp; omega
   have hn := sA_n (k := k) (opsA.take k) w0
   have hz : w0.n = 0 ∧ w0.evs.length = 0 := ⟨rfl, rfl⟩
   have htk : opsA.take (k + 1) = opsA.take k ++ [(kd, hh, kk)] := by rw [List.take_add_one, hop]; rfl
   have hidle := sA_idle k hlt
   rw [htk, sA_snoc] at hidle
   have hstep : sA (opsA.take (k + 1)) w0 = picks Ay.cA (wstartZ Ay.cA (sA (opsA.take k) w0) 0 kd hh kk).2 0 200 := by rw [htk, sA_snoc]
   have hre : Reach Ay.cA (sA (opsA.take k) w0) := sA_reach _ _ Reach.init (fun x hx => by
    have hx := List.mem_of_mem_take hx
    simp [opsA] at hx
    rcases hx with rfl | rfl | rfl | rfl | rfl <;> decide)
   have hre2 := reach_startZ hre 0 kd hh kk h64
   have hkeep := hD.out.1.keep (L := []) (w' := wr.alloc (.cells #[.int .i64 kd, .int .u64 (hh : Int), .int .i64 kk] 31)) (only_alloc wr _) (by simp)
   have hs2 : (wstartZ Ay.cA (sA (opsA.take k) w0) 0 kd hh kk).2.n = (sA (opsA.take k) w0).n := by
    unfold wstartZ
    split
    ·unfold wstart
     split
     all_goals simp
    ·simp
   have HS := hid (start_any hkeep 0 kd hh kk h64 (by omega))
   have HX := hid (And.intro hre2 (And.intro hs2 (And.intro hn (And.intro hlen (And.intro hidle hstep)))))
   have HZ := hid hz
   have h642 := hid h64
   clear hlen hn htk hidle hstep hre hre2 hkeep hs2 hop hz h64
   go_wp2_with fail
   refine WCall.mono HS.out ?_
   intro w2 F2 k1 k2 k3
   have hE : Calls Tryz.prog 14 #[.pointer (some ⟨wd, 0, none⟩), .int .i64 0, .int .i64 200] w2 fun e w' => e = .returned (.bool ((picks Ay.cA (wstartZ Ay.cA (sA (opsA.take k) w0) 0 kd hh kk).2 0 200).th 0).isIdle) ∧ ∃ F', WorldAt Ay.cA wd (picks Ay.cA (wstartZ Ay.cA (sA (opsA.take k) w0) 0 kd hh kk).2 0 200) w' F' ∧ Only F2 w2 w' ∧ ∀ x ∈ F', x ∈ F2 ∨ w2.heap.size ≤ x := Ends_any k1 HX.out.1 Ay.cA_right 200 (by omega) (by have := HX.out.2.1; have := HX.out.2.2.1; have := HX.out.2.2.2.1; have := HZ.out; omega) 0 (by decide)
   rw [HX.out.2.2.2.2.1] at hE
   have HE := hid hE
   have HK := hid (And.intro k2 k3)
   clear hE k1 k2 k3 HS
   go_wp2_with fail
   refine HE.out.mono ?_
   rintro e w3 ⟨rfl, F3, m1, m2, m3⟩
   have hw : WorldAt Ay.cA wd (sA (opsA.take (k + 1)) w0) w3 F3 := by rw [HX.out.2.2.2.2.2]; exact m1
   have hsz : wr.heap.size ≤ (wr.alloc (.cells #[.int .i64 kd, .int .u64 (hh : Int), .int .i64 kk] 31)).heap.size := by simp
   have hBl := below_alloc hD.out.2.1 (.cells #[.int .i64 kd, .int .u64 (hh : Int), .int .i64 kk] 31)
   have hadl : ad.block < wr.heap.size := blk_lt hD.out.2.2.2
   have hwl : w.heap.size ≤ wr.heap.size := hD.out.2.1.size
   have hB2 := below_only hBl hBl.size HK.out.1 (fun x hx => (hD.out.2.2.1 x hx).1)
   have hF2 : ∀ x ∈ F2, w.heap.size ≤ x ∧ x ≠ ad.block := fun x hx => by
    rcases HK.out.2 x hx with h | h
    ·exact hD.out.2.2.1 x h
    ·exact ⟨by omega, by omega⟩
   have hB3 := below_only hB2 hB2.size m2 (fun x hx => (hF2 x hx).1)
   have hF3 : ∀ x ∈ F3, w.heap.size ≤ x ∧ x ≠ ad.block := fun x hx => by
    rcases m3 x hx with h | h
    ·exact hF2 x h
    ·have := HK.out.1.size
     exact ⟨by omega, by omega⟩
   have hcb := m2.blk (fun h => (hF2 _ h).2 rfl) (HK.out.1.blk (fun h => (hD.out.2.2.1 _ h).2 rfl) (blk_alloc hD.out.2.2.2 (.cells #[.int .i64 kd, .int .u64 (hh : Int), .int .i64 kk] 31)))
   have HN := hid (And.intro hw (And.intro hB3 (And.intro hF3 hcb)))
   clear hw hsz hBl hadl hwl hB2 hF2 hB3 hF3 hcb m1 m2 m3
   go_wp2_with fail
   go_roundw
   case rel => exact ⟨k + 1, F3, by go_num, by omega, HN⟩
   case measure => simp [intOf] <;> omega
  ·obtain rfl : k = 6 := by omega
   have HW := hid (And.intro (show WorldAt Ay.cA wd (sA opsA w0) wr F' from hD.out.1) (And.intro hD.out.2.1 (fun x (hx : x ∈ F') => (hD.out.2.2.1 x hx).1)))
   have H1 := hid (ev_call HW.out.1)
   clear hD
   go_wp2_with fail
   refine H1.out.mono ?_
   rintro e w2 ⟨b1, q1, rfl, hb1, hh1, hB1⟩
   have H2 := hid (from_call (cap := q1) hh1)
   have K2 := hid (show Past wr w2 ∧ wr.heap.size ≤ b1 from ⟨hB1, hb1⟩)
   clear hb1 hh1 hB1 H1
   go_wp2_with fail
   refine H2.out.mono ?_
   rintro e w3 ⟨l, lc, wb, wc, rb, rc, rfl, hh3, ho3, hx3⟩
   have c0 : w3.cell? ⟨l, 0, none⟩ = some (.int .u64 2) := cell_hold (hh3.each _ (List.mem_cons_self ..)) 0 (vu 2) rfl
   have H3 := hid (serial_call hh3)
   have hX : ∀ x ∈ [l, wb, rb], wr.heap.size ≤ x := fun x hx => by
    have h1 := K2.out.2
    have h2 := K2.out.1.size
    rcases hx3 x hx with h | h <;> omega
   have K3 := hid (show Past wr w3 ∧ ∀ x ∈ [l, wb, rb], wr.heap.size ≤ x from ⟨K2.out.1.only ho3 (by simpa using K2.out.2), hX⟩)
   clear hh3 ho3 hx3 hX H2
   go_wp2_with fail
   refine H3.out.mono ?_
   rintro e w4 ⟨rfl, ho4⟩
   have K4 := hid (show Past wr w4 from K3.out.1.only ho4 K3.out.2)
   have H4 := hid (ev_call (K4.out.world HW.out.1))
   clear ho4 c0 H3
   go_wp2_with fail
   refine H4.out.mono ?_
   rintro e w5 ⟨b2, q2, rfl, hb2, hh2, hB2⟩
   have H5 := hid (life1_call (cap := q2) hh2)
   have K5 := hid (show Past wr w5 ∧ wr.heap.size ≤ b2 from ⟨K4.out.below hB2, Nat.le_trans K4.out.size hb2⟩)
   clear hb2 hh2 hB2 H4
   go_wp2_with fail
   refine H5.out.mono ?_
   rintro e w6 ⟨r1, rc1, rfl, hr1, ho6, hx6⟩
   have K6 := hid (show Past wr w6 ∧ wr.heap.size ≤ r1 ∧ Blk.holds ⟨r1, .own #[vi 0] rc1 1, 3⟩ w6 from ⟨K5.out.1.only ho6 (by simpa using K5.out.2), by have h1 := K5.out.2; have h2 := K5.out.1.size; omega, hr1⟩)
   have H6 := hid (ev_call (K6.out.1.world HW.out.1))
   clear hr1 ho6 hx6 H5
   go_wp2_with fail
   refine H6.out.mono ?_
   rintro e w7 ⟨b3, q3, rfl, hb3, hh3, hB7⟩
   have H7 := hid (life2_call (cap := q3) hh3)
   have hl1 := holds_lt K6.out.2.2
   have K7 := hid (show Past wr w7 ∧ wr.heap.size ≤ b3 ∧ r1 < b3 ∧ r1 < w7.heap.size ∧ Blk.holds ⟨r1, .own #[vi 0] rc1 1, 3⟩ w7 from ⟨K6.out.1.below hB7, Nat.le_trans K6.out.1.size hb3, Nat.lt_of_lt_of_le hl1 hb3, Nat.lt_of_lt_of_le hl1 hB7.size, holds_only K6.out.2.2 (Only.of (L := []) hB7) (by simp)⟩)
   clear hb3 hh3 hB7 hl1 H6
   go_wp2_with fail
   refine H7.out.mono ?_
   rintro e w8 ⟨r2, rc2, rfl, hr2, ho8, hx8⟩
   have hne : r1 ≠ r2 := by have h1 := K7.out.2.2.1; have h2 := K7.out.2.2.2.1; omega
   have H8 := hid (conf_call (holds_only K7.out.2.2.2.2 ho8 (by have h1 := K7.out.2.2.1; simp; omega)) hr2 hne)
   have K8 := hid (show Past wr w8 ∧ ∀ x ∈ [r1, r2], wr.heap.size ≤ x from ⟨K7.out.1.only ho8 (by simpa using K7.out.2.1), by
    have h1 := K6.out.2.1
    have h2 := K7.out.2.1
    have h3 := K7.out.1.size
    simp
    omega⟩)
   clear hr2 ho8 hx8 hne H7
   go_wp2_with fail
   refine H8.out.mono ?_
   rintro e w9 ⟨rfl, ho9⟩
   have K9 := hid (show Past wr w9 from K8.out.1.only ho9 K8.out.2)
   have H9 := hid (bw_call (K9.out.world HW.out.1))
   clear ho9 H8
   go_wp2_with fail
   refine H9.out.mono ?_
   rintro e w10 ⟨rfl, ho10⟩
   have hq : (binOp .eql 67 (.agg #[.int .i64 0, .int .i64 0, .int .i64 2, .int .i64 0]) (.agg #[.int .i64 0, .int .i64 0, .int .i64 2, .int .i64 0])).run Tryz.prog w10 = .ok (.bool true) w10 := by kernel_rfl
   have hB9 := below_then HW.out.2.1 K9.out
   have HB := hid (below_only hB9 hB9.size ho10 HW.out.2.2)
   clear hB9 ho10 H9
   go_wp2_with fail
   go_ret
   exact ⟨rfl, HB.out⟩
end Go.Proofs.YtfinmiakbpmjiaaGreat.Um
