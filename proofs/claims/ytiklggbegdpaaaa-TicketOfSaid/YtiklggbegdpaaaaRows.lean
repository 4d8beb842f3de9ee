/-
  No cell of these rows narrows 'for every input' (looked for: loops, veiled, ifaces, maps, wideKeys, modest, calm, conditions, laid).
  DERIVED. THE GIVEN ROWS OF THIS SEAT. 6 by the template 'for every input the law returns true; each argument reads behind the call as it read before'; 0 by the template 'total and deterministic' (their statements: YtiklggbegdpaaaaTotals.lean).
  GIVEN WITH THE SEED: the statements are not yours to turn. If you find one false, say at which input.
  Laid BY PROGRAM, IN A SANDBOX (cutbox-rows.mjs): the forced cells as the released guide's own fill.sh prints them over the translation 91492ae3860e13e2… (all of the seat's roots in one cut). By AI agents, Wed Nov 11 2026. No macro, syntax, notation, axiom, sorry.
-/
import Derived.Test.YtiklggbegdpaaaaChecked
import GoSem.Claim
import GoSem.ClaimJoined
import GoSem.ClaimMapViews
import Derived.JoinedTies
import Derived.KernelRfl
namespace Go.Proofs.Ytiklggbegdpaaaa
/- THE CELL 'sum', in the pinned program and in every row, IS THE sha256 OF THE DUMP (.gsa) THAT YtiklggbegdpaaaaProg.lean LOADS. Nothing in Lean hashes anything: it is a label: what it is worth is what the hold of that sum in a sandbox is worth. -/
noncomputable def Try.pinned : Pinned := { name := "ytiklggbegdpaaaa", sum := "91492ae3860e13e2403b6c019459050fb2b9955d793b186728cdd95edc52d0fc", checked := Try.checked }
namespace Rows
def none {H : Type} : Left H := { results := [], args := [] }

/-- 'umpirelaw04.TicketMakes': WHATEVER THE INPUT: true; the input reads as it did. -/
def ticketMakesSpec : ChangeSpec := { name := "ticketMakes", fn := fun _ => fun
  | [d1, d2] => { results := [.lit (.bool true)], args := [d1, d2] }
  | _ => none }
def ticketMakesRow : OpenClaim := { program := "ytiklggbegdpaaaa", sum := "91492ae3860e13e2403b6c019459050fb2b9955d793b186728cdd95edc52d0fc", func := "umpire/umpirelaw04.TicketMakes", spec := "ticketMakes", unfollowed := true, recurses := true, apart := false }
def TicketMakesSaid : Prop := ticketMakesRow.holds Try.pinned (OpenSpec.ofChange ticketMakesSpec)

/-- ITS FALSE NEIGHBOUR: 'it returns false'. Refute it at one input. -/
def ticketMakesWrong : ChangeSpec := { name := "ticketMakes", fn := fun _ => fun
  | [d1, d2] => { results := [.lit (.bool false)], args := [d1, d2] }
  | _ => none }
def TicketMakesWrongFalsely : Prop := ticketMakesRow.holds Try.pinned (OpenSpec.ofChange ticketMakesWrong)

/-- 'umpirelaw04.TicketParts': WHATEVER THE INPUT: true; the input reads as it did. -/
def ticketPartsSpec : ChangeSpec := { name := "ticketParts", fn := fun _ => fun
  | [d] => { results := [.lit (.bool true)], args := [d] }
  | _ => none }
def ticketPartsRow : OpenClaim := { program := "ytiklggbegdpaaaa", sum := "91492ae3860e13e2403b6c019459050fb2b9955d793b186728cdd95edc52d0fc", func := "umpire/umpirelaw04.TicketParts", spec := "ticketParts", unfollowed := true, recurses := true, apart := false }
def TicketPartsSaid : Prop := ticketPartsRow.holds Try.pinned (OpenSpec.ofChange ticketPartsSpec)

/-- ITS FALSE NEIGHBOUR: 'it returns false'. Refute it at one input. -/
def ticketPartsWrong : ChangeSpec := { name := "ticketParts", fn := fun _ => fun
  | [d] => { results := [.lit (.bool false)], args := [d] }
  | _ => none }
def TicketPartsWrongFalsely : Prop := ticketPartsRow.holds Try.pinned (OpenSpec.ofChange ticketPartsWrong)

/-- 'umpirelaw04.TicketOf': WHATEVER THE INPUT: true; the input reads as it did. -/
def ticketOfSpec : ChangeSpec := { name := "ticketOf", fn := fun _ => fun
  | [d1, d2] => { results := [.lit (.bool true)], args := [d1, d2] }
  | _ => none }
def ticketOfRow : OpenClaim := { program := "ytiklggbegdpaaaa", sum := "91492ae3860e13e2403b6c019459050fb2b9955d793b186728cdd95edc52d0fc", func := "umpire/umpirelaw04.TicketOf", spec := "ticketOf", unfollowed := true, recurses := true, apart := false }
def TicketOfSaid : Prop := ticketOfRow.holds Try.pinned (OpenSpec.ofChange ticketOfSpec)

/-- ITS FALSE NEIGHBOUR: 'it returns false'. Refute it at one input. -/
def ticketOfWrong : ChangeSpec := { name := "ticketOf", fn := fun _ => fun
  | [d1, d2] => { results := [.lit (.bool false)], args := [d1, d2] }
  | _ => none }
def TicketOfWrongFalsely : Prop := ticketOfRow.holds Try.pinned (OpenSpec.ofChange ticketOfWrong)

/-- 'umpirelaw04.TicketApart': WHATEVER THE INPUT: true; the input reads as it did. -/
def ticketApartSpec : ChangeSpec := { name := "ticketApart", fn := fun _ => fun
  | [d1, d2] => { results := [.lit (.bool true)], args := [d1, d2] }
  | _ => none }
def ticketApartRow : OpenClaim := { program := "ytiklggbegdpaaaa", sum := "91492ae3860e13e2403b6c019459050fb2b9955d793b186728cdd95edc52d0fc", func := "umpire/umpirelaw04.TicketApart", spec := "ticketApart", unfollowed := true, recurses := true, apart := false }
def TicketApartSaid : Prop := ticketApartRow.holds Try.pinned (OpenSpec.ofChange ticketApartSpec)

/-- ITS FALSE NEIGHBOUR: 'it returns false'. Refute it at one input. -/
def ticketApartWrong : ChangeSpec := { name := "ticketApart", fn := fun _ => fun
  | [d1, d2] => { results := [.lit (.bool false)], args := [d1, d2] }
  | _ => none }
def TicketApartWrongFalsely : Prop := ticketApartRow.holds Try.pinned (OpenSpec.ofChange ticketApartWrong)

/-- 'umpirelaw04.TicketGreater': WHATEVER THE INPUT: true; the input reads as it did. -/
def ticketGreaterSpec : ChangeSpec := { name := "ticketGreater", fn := fun _ => fun
  | [d1, d2] => { results := [.lit (.bool true)], args := [d1, d2] }
  | _ => none }
def ticketGreaterRow : OpenClaim := { program := "ytiklggbegdpaaaa", sum := "91492ae3860e13e2403b6c019459050fb2b9955d793b186728cdd95edc52d0fc", func := "umpire/umpirelaw04.TicketGreater", spec := "ticketGreater", unfollowed := true, recurses := true, apart := false }
def TicketGreaterSaid : Prop := ticketGreaterRow.holds Try.pinned (OpenSpec.ofChange ticketGreaterSpec)

/-- ITS FALSE NEIGHBOUR: 'it returns false'. Refute it at one input. -/
def ticketGreaterWrong : ChangeSpec := { name := "ticketGreater", fn := fun _ => fun
  | [d1, d2] => { results := [.lit (.bool false)], args := [d1, d2] }
  | _ => none }
def TicketGreaterWrongFalsely : Prop := ticketGreaterRow.holds Try.pinned (OpenSpec.ofChange ticketGreaterWrong)

/-- 'umpirelaw04.TicketNext': WHATEVER THE INPUT: true; the input reads as it did. -/
def ticketNextSpec : ChangeSpec := { name := "ticketNext", fn := fun _ => fun
  | [d1, d2] => { results := [.lit (.bool true)], args := [d1, d2] }
  | _ => none }
def ticketNextRow : OpenClaim := { program := "ytiklggbegdpaaaa", sum := "91492ae3860e13e2403b6c019459050fb2b9955d793b186728cdd95edc52d0fc", func := "umpire/umpirelaw04.TicketNext", spec := "ticketNext", unfollowed := true, recurses := true, apart := false }
def TicketNextSaid : Prop := ticketNextRow.holds Try.pinned (OpenSpec.ofChange ticketNextSpec)

/-- ITS FALSE NEIGHBOUR: 'it returns false'. Refute it at one input. -/
def ticketNextWrong : ChangeSpec := { name := "ticketNext", fn := fun _ => fun
  | [d1, d2] => { results := [.lit (.bool false)], args := [d1, d2] }
  | _ => none }
def TicketNextWrongFalsely : Prop := ticketNextRow.holds Try.pinned (OpenSpec.ofChange ticketNextWrong)

/- THE SECOND FORM. 'bulk': how many values and letters a reading holds, each counted each time it is reached (what is shared counts as often as it is met; a slice's spare places count too). A statement '..UptoSaid' is the law's where the arguments, and the package variables that the reading takes, are together of bulk at most 1048576: NARROWER than '..Said'. Prove '..Said' where nothing that the law and all that it calls make is longer than what came in: it says more and counts as full. Else prove '..UptoSaid'. A law counts once. -/
mutual
def uptoBulk {H : Type} : DataW H → Nat
  | .lit (.string bytes) => bytes.length + 1
  | .lit _ => 1
  | .nil => 1
  | .ptr d => uptoBulk d + 1
  | .slice elems spare => uptoBulkAll elems + uptoBulkAll spare + 1
  | .agg parts => uptoBulkAll parts + 1
  | .iface _ d => uptoBulk d + 1
  | .map entries => uptoBulkEntries entries + 1
  | .held _ => 1
def uptoBulkAll {H : Type} : List (DataW H) → Nat
  | [] => 0
  | d :: r => uptoBulk d + uptoBulkAll r
def uptoBulkEntries {H : Type} : List (Lit × DataW H) → Nat
  | [] => 0
  | x :: r => uptoBulkEntry x + uptoBulkEntries r
def uptoBulkEntry {H : Type} : Lit × DataW H → Nat
  | (.string bytes, d) => bytes.length + uptoBulk d + 1
  | (_, d) => uptoBulk d + 1
 end
def uptoSmall : (H : Type) → List (DataW H) → Bool := fun _ ds => decide (uptoBulkAll ds ≤ 1048576)
def OpenSpec.upto (s : _root_.Go.ChangeSpec) : _root_.Go.OpenSpec := { _root_.Go.OpenSpec.ofChange s with cond := some uptoSmall }

/-- 'umpirelaw04.TicketMakes', WHERE WHAT IT READS IS OF BULK AT MOST 1048576: true; the input reads as it did. -/
def ticketMakesUptoRow : OpenClaim := { program := "ytiklggbegdpaaaa", sum := "91492ae3860e13e2403b6c019459050fb2b9955d793b186728cdd95edc52d0fc", func := "umpire/umpirelaw04.TicketMakes", spec := "ticketMakes", unfollowed := true, recurses := true, apart := false, narrowed := true }
def TicketMakesUptoSaid : Prop := ticketMakesUptoRow.holds Try.pinned (OpenSpec.upto ticketMakesSpec)

/-- 'umpirelaw04.TicketParts', WHERE WHAT IT READS IS OF BULK AT MOST 1048576: true; the input reads as it did. -/
def ticketPartsUptoRow : OpenClaim := { program := "ytiklggbegdpaaaa", sum := "91492ae3860e13e2403b6c019459050fb2b9955d793b186728cdd95edc52d0fc", func := "umpire/umpirelaw04.TicketParts", spec := "ticketParts", unfollowed := true, recurses := true, apart := false, narrowed := true }
def TicketPartsUptoSaid : Prop := ticketPartsUptoRow.holds Try.pinned (OpenSpec.upto ticketPartsSpec)

/-- 'umpirelaw04.TicketOf', WHERE WHAT IT READS IS OF BULK AT MOST 1048576: true; the input reads as it did. -/
def ticketOfUptoRow : OpenClaim := { program := "ytiklggbegdpaaaa", sum := "91492ae3860e13e2403b6c019459050fb2b9955d793b186728cdd95edc52d0fc", func := "umpire/umpirelaw04.TicketOf", spec := "ticketOf", unfollowed := true, recurses := true, apart := false, narrowed := true }
def TicketOfUptoSaid : Prop := ticketOfUptoRow.holds Try.pinned (OpenSpec.upto ticketOfSpec)

/-- 'umpirelaw04.TicketApart', WHERE WHAT IT READS IS OF BULK AT MOST 1048576: true; the input reads as it did. -/
def ticketApartUptoRow : OpenClaim := { program := "ytiklggbegdpaaaa", sum := "91492ae3860e13e2403b6c019459050fb2b9955d793b186728cdd95edc52d0fc", func := "umpire/umpirelaw04.TicketApart", spec := "ticketApart", unfollowed := true, recurses := true, apart := false, narrowed := true }
def TicketApartUptoSaid : Prop := ticketApartUptoRow.holds Try.pinned (OpenSpec.upto ticketApartSpec)

/-- 'umpirelaw04.TicketGreater', WHERE WHAT IT READS IS OF BULK AT MOST 1048576: true; the input reads as it did. -/
def ticketGreaterUptoRow : OpenClaim := { program := "ytiklggbegdpaaaa", sum := "91492ae3860e13e2403b6c019459050fb2b9955d793b186728cdd95edc52d0fc", func := "umpire/umpirelaw04.TicketGreater", spec := "ticketGreater", unfollowed := true, recurses := true, apart := false, narrowed := true }
def TicketGreaterUptoSaid : Prop := ticketGreaterUptoRow.holds Try.pinned (OpenSpec.upto ticketGreaterSpec)

/-- 'umpirelaw04.TicketNext', WHERE WHAT IT READS IS OF BULK AT MOST 1048576: true; the input reads as it did. -/
def ticketNextUptoRow : OpenClaim := { program := "ytiklggbegdpaaaa", sum := "91492ae3860e13e2403b6c019459050fb2b9955d793b186728cdd95edc52d0fc", func := "umpire/umpirelaw04.TicketNext", spec := "ticketNext", unfollowed := true, recurses := true, apart := false, narrowed := true }
def TicketNextUptoSaid : Prop := ticketNextUptoRow.holds Try.pinned (OpenSpec.upto ticketNextSpec)

end Rows
end Go.Proofs.Ytiklggbegdpaaaa
