/-
  How an argument that is a status is opened: its seven fields.
-/
import Derived.Test.YtggphjmlnbkngaaS
namespace Go.Proofs.Ytggphjmlnbkngaa
open Go.RowKit Go.ChangeShapes Go.WideShapes
set_option linter.unusedVariables false
set_option linter.unusedSimpArgs false
theorem array7 {cs : List Value} (h : cs.length = 7) : ∃ c0 c1 c2 c3 c4 c5 c6, cs = [c0, c1, c2, c3, c4, c5, c6] := by
  match cs, h with
  | [c0, c1, c2, c3, c4, c5, c6], _ => exact ⟨c0, c1, c2, c3, c4, c5, c6, rfl⟩
theorem open_status {H : Type} {enc : TypeId × Value → H} {w : World} {spare : Nat → Bool} {held : Bool} {r : Reach} {base b0 : Nat} {v : Value} {d : DataW H} {p : List MemPlace}
    (hv : Value.okWide Try.prog w r b0 23 v) (h : DataW.Trod enc Try.prog w base spare held 23 v d p) :
    ∃ (g st : Int) (b ip op : Bool) (i o : Int), v = .agg #[.int .i64 g, .int .i64 st, .bool b, .bool ip, .bool op, .int .i64 i, .int .i64 o] ∧ (Lit.int .i64 g).wf = true ∧ (Lit.int .i64 st).wf = true ∧ (Lit.int .i64 i).wf = true ∧ (Lit.int .i64 o).wf = true := by
  obtain ⟨cs, rfl, hsz⟩ := okWide_struct Try.underlying23 hv
  obtain ⟨fuel, hf⟩ := h
  obtain ⟨xs, n, _, _, hl, hlen, hall⟩ := DataW.trod_struct Try.underlying23 hf
  have hl7 : (Value.agg cs).cells.toList.length = 7 := hl.trans (by kernel_rfl)
  obtain ⟨c0, c1, c2, c3, c4, c5, c6, hc⟩ := array7 hl7
  rw [hc] at hall
  match xs, hlen with
  | [y0, y1, y2, y3, y4, y5, y6], _ =>
    have e3 : Try.prog.cellsOf 3 = 1 := by kernel_rfl
    have e4 : Try.prog.cellsOf 4 = 1 := by kernel_rfl
    have h0 := hall 0 _ rfl
    have h1 := hall 1 _ rfl
    have h2 := hall 2 _ rfl
    have h3 := hall 3 _ rfl
    have h4 := hall 4 _ rfl
    have h5 := hall 5 _ rfl
    have h6 := hall 6 _ rfl
    simp [e3, e4] at h0 h1 h2 h3 h4 h5 h6
    obtain ⟨g, q0, _, w0⟩ := DataW.trod_int Try.underlying3 h0
    obtain ⟨st, q1, _, w1⟩ := DataW.trod_int Try.underlying3 h1
    obtain ⟨b, q2, _⟩ := DataW.trod_bool Try.underlying4 h2
    obtain ⟨ip, q3, _⟩ := DataW.trod_bool Try.underlying4 h3
    obtain ⟨op, q4, _⟩ := DataW.trod_bool Try.underlying4 h4
    obtain ⟨i, q5, _, w5⟩ := DataW.trod_int Try.underlying3 h5
    obtain ⟨o, q6, _, w6⟩ := DataW.trod_int Try.underlying3 h6
    simp at q0 q1 q2 q3 q4 q5 q6
    refine ⟨g, st, b, ip, op, i, o, ?_, w0, w1, w5, w6⟩
    simp only [Value.cells] at hc
    have : cs = #[.int .i64 g, .int .i64 st, .bool b, .bool ip, .bool op, .int .i64 i, .int .i64 o] := by
      apply Array.toList_inj.1
      rw [hc, q0, q1, q2, q3, q4, q5, q6]
    rw [this]
end Go.Proofs.Ytggphjmlnbkngaa
