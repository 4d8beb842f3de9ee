/-
  No cell of these rows narrows 'for every input' (looked for: loops, veiled, ifaces, maps, wideKeys, modest, calm, conditions, laid).
  DERIVED. THE GIVEN ROWS OF THIS SEAT. 6 by the template 'for every input the law returns true; each argument reads behind the call as it read before'; 0 by the template 'total and deterministic' (their statements: YtjimdjmohpfjlaaTotals.lean).
  GIVEN WITH THE SEED: the statements are not yours to turn. If you find one false, say at which input.
  Laid BY PROGRAM, IN A SANDBOX (cutbox-rows.mjs): the forced cells as the released guide's own fill.sh prints them over the translation 16963f37c01d4f12… (all of the seat's roots in one cut). By AI agents, Wed Nov 11 2026. No macro, syntax, notation, axiom, sorry.
-/
import Derived.Test.YtjimdjmohpfjlaaChecked
import GoSem.Claim
import GoSem.ClaimJoined
import GoSem.ClaimMapViews
import Derived.JoinedTies
import Derived.KernelRfl
namespace Go.Proofs.Ytjimdjmohpfjlaa
/- THE CELL 'sum', in the pinned program and in every row, IS THE sha256 OF THE DUMP (.gsa) THAT YtjimdjmohpfjlaaProg.lean LOADS. Nothing in Lean hashes anything: it is a label: what it is worth is what the hold of that sum in a sandbox is worth. -/
noncomputable def Try.pinned : Pinned := { name := "ytjimdjmohpfjlaa", sum := "16963f37c01d4f12c8771e18ccc4ddc530f02da920991691e4b2626da83d1a28", checked := Try.checked }
namespace Rows
def none {H : Type} : Left H := { results := [], args := [] }

/-- 'umpirelaw03.TallyPacks': WHATEVER THE INPUT: true; the input reads as it did. -/
def tallyPacksSpec : ChangeSpec := { name := "tallyPacks", fn := fun _ => fun
  | [d] => { results := [.lit (.bool true)], args := [d] }
  | _ => none }
def tallyPacksRow : OpenClaim := { program := "ytjimdjmohpfjlaa", sum := "16963f37c01d4f12c8771e18ccc4ddc530f02da920991691e4b2626da83d1a28", func := "umpire/umpirelaw03.TallyPacks", spec := "tallyPacks", apart := false }
def TallyPacksSaid : Prop := tallyPacksRow.holds Try.pinned (OpenSpec.ofChange tallyPacksSpec)

/-- ITS FALSE NEIGHBOUR: 'it returns false'. Refute it at one input. -/
def tallyPacksWrong : ChangeSpec := { name := "tallyPacks", fn := fun _ => fun
  | [d] => { results := [.lit (.bool false)], args := [d] }
  | _ => none }
def TallyPacksWrongFalsely : Prop := tallyPacksRow.holds Try.pinned (OpenSpec.ofChange tallyPacksWrong)

/-- 'umpirelaw03.TallyParts': WHATEVER THE INPUT: true; the input reads as it did. -/
def tallyPartsSpec : ChangeSpec := { name := "tallyParts", fn := fun _ => fun
  | [d] => { results := [.lit (.bool true)], args := [d] }
  | _ => none }
def tallyPartsRow : OpenClaim := { program := "ytjimdjmohpfjlaa", sum := "16963f37c01d4f12c8771e18ccc4ddc530f02da920991691e4b2626da83d1a28", func := "umpire/umpirelaw03.TallyParts", spec := "tallyParts", apart := false }
def TallyPartsSaid : Prop := tallyPartsRow.holds Try.pinned (OpenSpec.ofChange tallyPartsSpec)

/-- ITS FALSE NEIGHBOUR: 'it returns false'. Refute it at one input. -/
def tallyPartsWrong : ChangeSpec := { name := "tallyParts", fn := fun _ => fun
  | [d] => { results := [.lit (.bool false)], args := [d] }
  | _ => none }
def TallyPartsWrongFalsely : Prop := tallyPartsRow.holds Try.pinned (OpenSpec.ofChange tallyPartsWrong)

/-- 'umpirelaw03.TallyNext': WHATEVER THE INPUT: true; the input reads as it did. -/
def tallyNextSpec : ChangeSpec := { name := "tallyNext", fn := fun _ => fun
  | [d1, d2] => { results := [.lit (.bool true)], args := [d1, d2] }
  | _ => none }
def tallyNextRow : OpenClaim := { program := "ytjimdjmohpfjlaa", sum := "16963f37c01d4f12c8771e18ccc4ddc530f02da920991691e4b2626da83d1a28", func := "umpire/umpirelaw03.TallyNext", spec := "tallyNext", apart := false }
def TallyNextSaid : Prop := tallyNextRow.holds Try.pinned (OpenSpec.ofChange tallyNextSpec)

/-- ITS FALSE NEIGHBOUR: 'it returns false'. Refute it at one input. -/
def tallyNextWrong : ChangeSpec := { name := "tallyNext", fn := fun _ => fun
  | [d1, d2] => { results := [.lit (.bool false)], args := [d1, d2] }
  | _ => none }
def TallyNextWrongFalsely : Prop := tallyNextRow.holds Try.pinned (OpenSpec.ofChange tallyNextWrong)

/-- 'umpirelaw03.TallyRises': WHATEVER THE INPUT: true; the input reads as it did. -/
def tallyRisesSpec : ChangeSpec := { name := "tallyRises", fn := fun _ => fun
  | [d1, d2] => { results := [.lit (.bool true)], args := [d1, d2] }
  | _ => none }
def tallyRisesRow : OpenClaim := { program := "ytjimdjmohpfjlaa", sum := "16963f37c01d4f12c8771e18ccc4ddc530f02da920991691e4b2626da83d1a28", func := "umpire/umpirelaw03.TallyRises", spec := "tallyRises", apart := false }
def TallyRisesSaid : Prop := tallyRisesRow.holds Try.pinned (OpenSpec.ofChange tallyRisesSpec)

/-- ITS FALSE NEIGHBOUR: 'it returns false'. Refute it at one input. -/
def tallyRisesWrong : ChangeSpec := { name := "tallyRises", fn := fun _ => fun
  | [d1, d2] => { results := [.lit (.bool false)], args := [d1, d2] }
  | _ => none }
def TallyRisesWrongFalsely : Prop := tallyRisesRow.holds Try.pinned (OpenSpec.ofChange tallyRisesWrong)

/-- 'umpirelaw03.TallyPast': WHATEVER THE INPUT: true; the input reads as it did. -/
def tallyPastSpec : ChangeSpec := { name := "tallyPast", fn := fun _ => fun
  | [d1, d2, d3] => { results := [.lit (.bool true)], args := [d1, d2, d3] }
  | _ => none }
def tallyPastRow : OpenClaim := { program := "ytjimdjmohpfjlaa", sum := "16963f37c01d4f12c8771e18ccc4ddc530f02da920991691e4b2626da83d1a28", func := "umpire/umpirelaw03.TallyPast", spec := "tallyPast", apart := false }
def TallyPastSaid : Prop := tallyPastRow.holds Try.pinned (OpenSpec.ofChange tallyPastSpec)

/-- ITS FALSE NEIGHBOUR: 'it returns false'. Refute it at one input. -/
def tallyPastWrong : ChangeSpec := { name := "tallyPast", fn := fun _ => fun
  | [d1, d2, d3] => { results := [.lit (.bool false)], args := [d1, d2, d3] }
  | _ => none }
def TallyPastWrongFalsely : Prop := tallyPastRow.holds Try.pinned (OpenSpec.ofChange tallyPastWrong)

/-- 'umpirelaw03.TallyApart': WHATEVER THE INPUT: true; the input reads as it did. -/
def tallyApartSpec : ChangeSpec := { name := "tallyApart", fn := fun _ => fun
  | [d1, d2] => { results := [.lit (.bool true)], args := [d1, d2] }
  | _ => none }
def tallyApartRow : OpenClaim := { program := "ytjimdjmohpfjlaa", sum := "16963f37c01d4f12c8771e18ccc4ddc530f02da920991691e4b2626da83d1a28", func := "umpire/umpirelaw03.TallyApart", spec := "tallyApart", apart := false }
def TallyApartSaid : Prop := tallyApartRow.holds Try.pinned (OpenSpec.ofChange tallyApartSpec)

/-- ITS FALSE NEIGHBOUR: 'it returns false'. Refute it at one input. -/
def tallyApartWrong : ChangeSpec := { name := "tallyApart", fn := fun _ => fun
  | [d1, d2] => { results := [.lit (.bool false)], args := [d1, d2] }
  | _ => none }
def TallyApartWrongFalsely : Prop := tallyApartRow.holds Try.pinned (OpenSpec.ofChange tallyApartWrong)

/- THE SECOND FORM. 'bulk': how many values and letters a reading holds, each counted each time it is reached (what is shared counts as often as it is met; a slice's spare places count too). A statement '..UptoSaid' is the law's where the arguments, and the package variables that the reading takes, are together of bulk at most 1048576: NARROWER than '..Said'. Prove '..Said' where nothing that the law and all that it calls make is longer than what came in: it says more and counts as full. Else prove '..UptoSaid'. A law counts once. -/
mutual
def uptoBulk {H : Type} : DataW H → Nat
  | .lit (.string bytes) => bytes.length + 1
  | .lit _ => 1
  | .nil => 1
  | .ptr d => uptoBulk d + 1
  | .slice elems spare => uptoBulkAll elems + uptoBulkAll spare + 1
  | .agg parts => uptoBulkAll parts + 1
  | .iface _ d => uptoBulk d + 1
  | .map entries => uptoBulkEntries entries + 1
  | .held _ => 1
def uptoBulkAll {H : Type} : List (DataW H) → Nat
  | [] => 0
  | d :: r => uptoBulk d + uptoBulkAll r
def uptoBulkEntries {H : Type} : List (Lit × DataW H) → Nat
  | [] => 0
  | x :: r => uptoBulkEntry x + uptoBulkEntries r
def uptoBulkEntry {H : Type} : Lit × DataW H → Nat
  | (.string bytes, d) => bytes.length + uptoBulk d + 1
  | (_, d) => uptoBulk d + 1
 end
def uptoSmall : (H : Type) → List (DataW H) → Bool := fun _ ds => decide (uptoBulkAll ds ≤ 1048576)
def OpenSpec.upto (s : _root_.Go.ChangeSpec) : _root_.Go.OpenSpec := { _root_.Go.OpenSpec.ofChange s with cond := some uptoSmall }

/-- 'umpirelaw03.TallyPacks', WHERE WHAT IT READS IS OF BULK AT MOST 1048576: true; the input reads as it did. -/
def tallyPacksUptoRow : OpenClaim := { program := "ytjimdjmohpfjlaa", sum := "16963f37c01d4f12c8771e18ccc4ddc530f02da920991691e4b2626da83d1a28", func := "umpire/umpirelaw03.TallyPacks", spec := "tallyPacks", apart := false, narrowed := true }
def TallyPacksUptoSaid : Prop := tallyPacksUptoRow.holds Try.pinned (OpenSpec.upto tallyPacksSpec)

/-- 'umpirelaw03.TallyParts', WHERE WHAT IT READS IS OF BULK AT MOST 1048576: true; the input reads as it did. -/
def tallyPartsUptoRow : OpenClaim := { program := "ytjimdjmohpfjlaa", sum := "16963f37c01d4f12c8771e18ccc4ddc530f02da920991691e4b2626da83d1a28", func := "umpire/umpirelaw03.TallyParts", spec := "tallyParts", apart := false, narrowed := true }
def TallyPartsUptoSaid : Prop := tallyPartsUptoRow.holds Try.pinned (OpenSpec.upto tallyPartsSpec)

/-- 'umpirelaw03.TallyNext', WHERE WHAT IT READS IS OF BULK AT MOST 1048576: true; the input reads as it did. -/
def tallyNextUptoRow : OpenClaim := { program := "ytjimdjmohpfjlaa", sum := "16963f37c01d4f12c8771e18ccc4ddc530f02da920991691e4b2626da83d1a28", func := "umpire/umpirelaw03.TallyNext", spec := "tallyNext", apart := false, narrowed := true }
def TallyNextUptoSaid : Prop := tallyNextUptoRow.holds Try.pinned (OpenSpec.upto tallyNextSpec)

/-- 'umpirelaw03.TallyRises', WHERE WHAT IT READS IS OF BULK AT MOST 1048576: true; the input reads as it did. -/
def tallyRisesUptoRow : OpenClaim := { program := "ytjimdjmohpfjlaa", sum := "16963f37c01d4f12c8771e18ccc4ddc530f02da920991691e4b2626da83d1a28", func := "umpire/umpirelaw03.TallyRises", spec := "tallyRises", apart := false, narrowed := true }
def TallyRisesUptoSaid : Prop := tallyRisesUptoRow.holds Try.pinned (OpenSpec.upto tallyRisesSpec)

/-- 'umpirelaw03.TallyPast', WHERE WHAT IT READS IS OF BULK AT MOST 1048576: true; the input reads as it did. -/
def tallyPastUptoRow : OpenClaim := { program := "ytjimdjmohpfjlaa", sum := "16963f37c01d4f12c8771e18ccc4ddc530f02da920991691e4b2626da83d1a28", func := "umpire/umpirelaw03.TallyPast", spec := "tallyPast", apart := false, narrowed := true }
def TallyPastUptoSaid : Prop := tallyPastUptoRow.holds Try.pinned (OpenSpec.upto tallyPastSpec)

/-- 'umpirelaw03.TallyApart', WHERE WHAT IT READS IS OF BULK AT MOST 1048576: true; the input reads as it did. -/
def tallyApartUptoRow : OpenClaim := { program := "ytjimdjmohpfjlaa", sum := "16963f37c01d4f12c8771e18ccc4ddc530f02da920991691e4b2626da83d1a28", func := "umpire/umpirelaw03.TallyApart", spec := "tallyApart", apart := false, narrowed := true }
def TallyApartUptoSaid : Prop := tallyApartUptoRow.holds Try.pinned (OpenSpec.upto tallyApartSpec)

end Rows
end Go.Proofs.Ytjimdjmohpfjlaa
