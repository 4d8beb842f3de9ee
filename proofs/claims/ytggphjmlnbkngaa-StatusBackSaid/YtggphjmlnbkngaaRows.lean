/-
  No cell of these rows narrows 'for every input' (looked for: loops, veiled, ifaces, maps, wideKeys, modest, calm, conditions, laid).
  DERIVED. THE GIVEN ROWS OF THIS SEAT. 7 by the template 'for every input the law returns true; each argument reads behind the call as it read before'; 0 by the template 'total and deterministic' (their statements: YtggphjmlnbkngaaTotals.lean).
  GIVEN WITH THE SEED: the statements are not yours to turn. If you find one false, say at which input.
  Laid BY PROGRAM, IN A SANDBOX (cutbox-rows.mjs): the forced cells as the released guide's own fill.sh prints them over the translation d0d719afbf3ecf16… (all of the seat's roots in one cut). By AI agents, Wed Nov 11 2026. No macro, syntax, notation, axiom, sorry.
-/
import Derived.Test.YtggphjmlnbkngaaChecked
import GoSem.Claim
import GoSem.ClaimJoined
import GoSem.ClaimMapViews
import Derived.JoinedTies
import Derived.KernelRfl
namespace Go.Proofs.Ytggphjmlnbkngaa
/- THE CELL 'sum', in the pinned program and in every row, IS THE sha256 OF THE DUMP (.gsa) THAT YtggphjmlnbkngaaProg.lean LOADS. Nothing in Lean hashes anything: it is a label: what it is worth is what the hold of that sum in a sandbox is worth. -/
noncomputable def Try.pinned : Pinned := { name := "ytggphjmlnbkngaa", sum := "d0d719afbf3ecf16b47c3bf401cb60d978a58bcf42a6b8049ae7a578fb5867b7", checked := Try.checked }
namespace Rows
def none {H : Type} : Left H := { results := [], args := [] }

/-- 'umpirelaw01.StatusPacks': WHATEVER THE INPUT: true; the input reads as it did. -/
def statusPacksSpec : ChangeSpec := { name := "statusPacks", fn := fun _ => fun
  | [d] => { results := [.lit (.bool true)], args := [d] }
  | _ => none }
def statusPacksRow : OpenClaim := { program := "ytggphjmlnbkngaa", sum := "d0d719afbf3ecf16b47c3bf401cb60d978a58bcf42a6b8049ae7a578fb5867b7", func := "umpire/umpirelaw01.StatusPacks", spec := "statusPacks", unfollowed := true, recurses := true, apart := false }
def StatusPacksSaid : Prop := statusPacksRow.holds Try.pinned (OpenSpec.ofChange statusPacksSpec)

/-- ITS FALSE NEIGHBOUR: 'it returns false'. Refute it at one input. -/
def statusPacksWrong : ChangeSpec := { name := "statusPacks", fn := fun _ => fun
  | [d] => { results := [.lit (.bool false)], args := [d] }
  | _ => none }
def StatusPacksWrongFalsely : Prop := statusPacksRow.holds Try.pinned (OpenSpec.ofChange statusPacksWrong)

/-- 'umpirelaw01.StatusParts': WHATEVER THE INPUT: true; the input reads as it did. -/
def statusPartsSpec : ChangeSpec := { name := "statusParts", fn := fun _ => fun
  | [d] => { results := [.lit (.bool true)], args := [d] }
  | _ => none }
def statusPartsRow : OpenClaim := { program := "ytggphjmlnbkngaa", sum := "d0d719afbf3ecf16b47c3bf401cb60d978a58bcf42a6b8049ae7a578fb5867b7", func := "umpire/umpirelaw01.StatusParts", spec := "statusParts", unfollowed := true, recurses := true, apart := false }
def StatusPartsSaid : Prop := statusPartsRow.holds Try.pinned (OpenSpec.ofChange statusPartsSpec)

/-- ITS FALSE NEIGHBOUR: 'it returns false'. Refute it at one input. -/
def statusPartsWrong : ChangeSpec := { name := "statusParts", fn := fun _ => fun
  | [d] => { results := [.lit (.bool false)], args := [d] }
  | _ => none }
def StatusPartsWrongFalsely : Prop := statusPartsRow.holds Try.pinned (OpenSpec.ofChange statusPartsWrong)

/-- 'umpirelaw01.StatusMoves': WHATEVER THE INPUT: true; the input reads as it did. -/
def statusMovesSpec : ChangeSpec := { name := "statusMoves", fn := fun _ => fun
  | [d1, d2, d3] => { results := [.lit (.bool true)], args := [d1, d2, d3] }
  | _ => none }
def statusMovesRow : OpenClaim := { program := "ytggphjmlnbkngaa", sum := "d0d719afbf3ecf16b47c3bf401cb60d978a58bcf42a6b8049ae7a578fb5867b7", func := "umpire/umpirelaw01.StatusMoves", spec := "statusMoves", unfollowed := true, recurses := true, apart := false }
def StatusMovesSaid : Prop := statusMovesRow.holds Try.pinned (OpenSpec.ofChange statusMovesSpec)

/-- ITS FALSE NEIGHBOUR: 'it returns false'. Refute it at one input. -/
def statusMovesWrong : ChangeSpec := { name := "statusMoves", fn := fun _ => fun
  | [d1, d2, d3] => { results := [.lit (.bool false)], args := [d1, d2, d3] }
  | _ => none }
def StatusMovesWrongFalsely : Prop := statusMovesRow.holds Try.pinned (OpenSpec.ofChange statusMovesWrong)

/-- 'umpirelaw01.StatusSides': WHATEVER THE INPUT: true; the input reads as it did. -/
def statusSidesSpec : ChangeSpec := { name := "statusSides", fn := fun _ => fun
  | [d1, d2, d3] => { results := [.lit (.bool true)], args := [d1, d2, d3] }
  | _ => none }
def statusSidesRow : OpenClaim := { program := "ytggphjmlnbkngaa", sum := "d0d719afbf3ecf16b47c3bf401cb60d978a58bcf42a6b8049ae7a578fb5867b7", func := "umpire/umpirelaw01.StatusSides", spec := "statusSides", unfollowed := true, recurses := true, apart := false }
def StatusSidesSaid : Prop := statusSidesRow.holds Try.pinned (OpenSpec.ofChange statusSidesSpec)

/-- ITS FALSE NEIGHBOUR: 'it returns false'. Refute it at one input. -/
def statusSidesWrong : ChangeSpec := { name := "statusSides", fn := fun _ => fun
  | [d1, d2, d3] => { results := [.lit (.bool false)], args := [d1, d2, d3] }
  | _ => none }
def StatusSidesWrongFalsely : Prop := statusSidesRow.holds Try.pinned (OpenSpec.ofChange statusSidesWrong)

/-- 'umpirelaw01.StatusDrops': WHATEVER THE INPUT: true; the input reads as it did. -/
def statusDropsSpec : ChangeSpec := { name := "statusDrops", fn := fun _ => fun
  | [d1, d2, d3] => { results := [.lit (.bool true)], args := [d1, d2, d3] }
  | _ => none }
def statusDropsRow : OpenClaim := { program := "ytggphjmlnbkngaa", sum := "d0d719afbf3ecf16b47c3bf401cb60d978a58bcf42a6b8049ae7a578fb5867b7", func := "umpire/umpirelaw01.StatusDrops", spec := "statusDrops", unfollowed := true, recurses := true, apart := false }
def StatusDropsSaid : Prop := statusDropsRow.holds Try.pinned (OpenSpec.ofChange statusDropsSpec)

/-- ITS FALSE NEIGHBOUR: 'it returns false'. Refute it at one input. -/
def statusDropsWrong : ChangeSpec := { name := "statusDrops", fn := fun _ => fun
  | [d1, d2, d3] => { results := [.lit (.bool false)], args := [d1, d2, d3] }
  | _ => none }
def StatusDropsWrongFalsely : Prop := statusDropsRow.holds Try.pinned (OpenSpec.ofChange statusDropsWrong)

/-- 'umpirelaw01.StatusBack': WHATEVER THE INPUT: true; the input reads as it did. -/
def statusBackSpec : ChangeSpec := { name := "statusBack", fn := fun _ => fun
  | [d1, d2, d3] => { results := [.lit (.bool true)], args := [d1, d2, d3] }
  | _ => none }
def statusBackRow : OpenClaim := { program := "ytggphjmlnbkngaa", sum := "d0d719afbf3ecf16b47c3bf401cb60d978a58bcf42a6b8049ae7a578fb5867b7", func := "umpire/umpirelaw01.StatusBack", spec := "statusBack", unfollowed := true, recurses := true, apart := false }
def StatusBackSaid : Prop := statusBackRow.holds Try.pinned (OpenSpec.ofChange statusBackSpec)

/-- ITS FALSE NEIGHBOUR: 'it returns false'. Refute it at one input. -/
def statusBackWrong : ChangeSpec := { name := "statusBack", fn := fun _ => fun
  | [d1, d2, d3] => { results := [.lit (.bool false)], args := [d1, d2, d3] }
  | _ => none }
def StatusBackWrongFalsely : Prop := statusBackRow.holds Try.pinned (OpenSpec.ofChange statusBackWrong)

/-- 'umpirelaw01.StatusOrder': WHATEVER THE INPUT: true; the input reads as it did. -/
def statusOrderSpec : ChangeSpec := { name := "statusOrder", fn := fun _ => fun
  | [d1, d2, d3] => { results := [.lit (.bool true)], args := [d1, d2, d3] }
  | _ => none }
def statusOrderRow : OpenClaim := { program := "ytggphjmlnbkngaa", sum := "d0d719afbf3ecf16b47c3bf401cb60d978a58bcf42a6b8049ae7a578fb5867b7", func := "umpire/umpirelaw01.StatusOrder", spec := "statusOrder", unfollowed := true, recurses := true, apart := false }
def StatusOrderSaid : Prop := statusOrderRow.holds Try.pinned (OpenSpec.ofChange statusOrderSpec)

/-- ITS FALSE NEIGHBOUR: 'it returns false'. Refute it at one input. -/
def statusOrderWrong : ChangeSpec := { name := "statusOrder", fn := fun _ => fun
  | [d1, d2, d3] => { results := [.lit (.bool false)], args := [d1, d2, d3] }
  | _ => none }
def StatusOrderWrongFalsely : Prop := statusOrderRow.holds Try.pinned (OpenSpec.ofChange statusOrderWrong)

/- THE SECOND FORM. 'bulk': how many values and letters a reading holds, each counted each time it is reached (what is shared counts as often as it is met; a slice's spare places count too). A statement '..UptoSaid' is the law's where the arguments, and the package variables that the reading takes, are together of bulk at most 1048576: NARROWER than '..Said'. Prove '..Said' where nothing that the law and all that it calls make is longer than what came in: it says more and counts as full. Else prove '..UptoSaid'. A law counts once. -/
mutual
def uptoBulk {H : Type} : DataW H → Nat
  | .lit (.string bytes) => bytes.length + 1
  | .lit _ => 1
  | .nil => 1
  | .ptr d => uptoBulk d + 1
  | .slice elems spare => uptoBulkAll elems + uptoBulkAll spare + 1
  | .agg parts => uptoBulkAll parts + 1
  | .iface _ d => uptoBulk d + 1
  | .map entries => uptoBulkEntries entries + 1
  | .held _ => 1
def uptoBulkAll {H : Type} : List (DataW H) → Nat
  | [] => 0
  | d :: r => uptoBulk d + uptoBulkAll r
def uptoBulkEntries {H : Type} : List (Lit × DataW H) → Nat
  | [] => 0
  | x :: r => uptoBulkEntry x + uptoBulkEntries r
def uptoBulkEntry {H : Type} : Lit × DataW H → Nat
  | (.string bytes, d) => bytes.length + uptoBulk d + 1
  | (_, d) => uptoBulk d + 1
 end
def uptoSmall : (H : Type) → List (DataW H) → Bool := fun _ ds => decide (uptoBulkAll ds ≤ 1048576)
def OpenSpec.upto (s : _root_.Go.ChangeSpec) : _root_.Go.OpenSpec := { _root_.Go.OpenSpec.ofChange s with cond := some uptoSmall }

/-- 'umpirelaw01.StatusPacks', WHERE WHAT IT READS IS OF BULK AT MOST 1048576: true; the input reads as it did. -/
def statusPacksUptoRow : OpenClaim := { program := "ytggphjmlnbkngaa", sum := "d0d719afbf3ecf16b47c3bf401cb60d978a58bcf42a6b8049ae7a578fb5867b7", func := "umpire/umpirelaw01.StatusPacks", spec := "statusPacks", unfollowed := true, recurses := true, apart := false, narrowed := true }
def StatusPacksUptoSaid : Prop := statusPacksUptoRow.holds Try.pinned (OpenSpec.upto statusPacksSpec)

/-- 'umpirelaw01.StatusParts', WHERE WHAT IT READS IS OF BULK AT MOST 1048576: true; the input reads as it did. -/
def statusPartsUptoRow : OpenClaim := { program := "ytggphjmlnbkngaa", sum := "d0d719afbf3ecf16b47c3bf401cb60d978a58bcf42a6b8049ae7a578fb5867b7", func := "umpire/umpirelaw01.StatusParts", spec := "statusParts", unfollowed := true, recurses := true, apart := false, narrowed := true }
def StatusPartsUptoSaid : Prop := statusPartsUptoRow.holds Try.pinned (OpenSpec.upto statusPartsSpec)

/-- 'umpirelaw01.StatusMoves', WHERE WHAT IT READS IS OF BULK AT MOST 1048576: true; the input reads as it did. -/
def statusMovesUptoRow : OpenClaim := { program := "ytggphjmlnbkngaa", sum := "d0d719afbf3ecf16b47c3bf401cb60d978a58bcf42a6b8049ae7a578fb5867b7", func := "umpire/umpirelaw01.StatusMoves", spec := "statusMoves", unfollowed := true, recurses := true, apart := false, narrowed := true }
def StatusMovesUptoSaid : Prop := statusMovesUptoRow.holds Try.pinned (OpenSpec.upto statusMovesSpec)

/-- 'umpirelaw01.StatusSides', WHERE WHAT IT READS IS OF BULK AT MOST 1048576: true; the input reads as it did. -/
def statusSidesUptoRow : OpenClaim := { program := "ytggphjmlnbkngaa", sum := "d0d719afbf3ecf16b47c3bf401cb60d978a58bcf42a6b8049ae7a578fb5867b7", func := "umpire/umpirelaw01.StatusSides", spec := "statusSides", unfollowed := true, recurses := true, apart := false, narrowed := true }
def StatusSidesUptoSaid : Prop := statusSidesUptoRow.holds Try.pinned (OpenSpec.upto statusSidesSpec)

/-- 'umpirelaw01.StatusDrops', WHERE WHAT IT READS IS OF BULK AT MOST 1048576: true; the input reads as it did. -/
def statusDropsUptoRow : OpenClaim := { program := "ytggphjmlnbkngaa", sum := "d0d719afbf3ecf16b47c3bf401cb60d978a58bcf42a6b8049ae7a578fb5867b7", func := "umpire/umpirelaw01.StatusDrops", spec := "statusDrops", unfollowed := true, recurses := true, apart := false, narrowed := true }
def StatusDropsUptoSaid : Prop := statusDropsUptoRow.holds Try.pinned (OpenSpec.upto statusDropsSpec)

/-- 'umpirelaw01.StatusBack', WHERE WHAT IT READS IS OF BULK AT MOST 1048576: true; the input reads as it did. -/
def statusBackUptoRow : OpenClaim := { program := "ytggphjmlnbkngaa", sum := "d0d719afbf3ecf16b47c3bf401cb60d978a58bcf42a6b8049ae7a578fb5867b7", func := "umpire/umpirelaw01.StatusBack", spec := "statusBack", unfollowed := true, recurses := true, apart := false, narrowed := true }
def StatusBackUptoSaid : Prop := statusBackUptoRow.holds Try.pinned (OpenSpec.upto statusBackSpec)

/-- 'umpirelaw01.StatusOrder', WHERE WHAT IT READS IS OF BULK AT MOST 1048576: true; the input reads as it did. -/
def statusOrderUptoRow : OpenClaim := { program := "ytggphjmlnbkngaa", sum := "d0d719afbf3ecf16b47c3bf401cb60d978a58bcf42a6b8049ae7a578fb5867b7", func := "umpire/umpirelaw01.StatusOrder", spec := "statusOrder", unfollowed := true, recurses := true, apart := false, narrowed := true }
def StatusOrderUptoSaid : Prop := statusOrderUptoRow.holds Try.pinned (OpenSpec.upto statusOrderSpec)

end Rows
end Go.Proofs.Ytggphjmlnbkngaa
