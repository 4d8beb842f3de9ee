/-
  No cell of these rows narrows 'for every input' (looked for: loops, veiled, ifaces, maps, wideKeys, modest, calm, conditions, laid).
  DERIVED. THE GIVEN ROWS OF THIS SEAT. 7 by the template 'for every input the law returns true; each argument reads behind the call as it read before'; 0 by the template 'total and deterministic' (their statements: YtepbnfekicdlpaaTotals.lean).
  GIVEN WITH THE SEED: the statements are not yours to turn. If you find one false, say at which input.
  Laid BY PROGRAM, IN A SANDBOX (cutbox-rows.mjs): the forced cells as the released guide's own fill.sh prints them over the translation c719b1c4c4ca9836… (all of the seat's roots in one cut). By AI agents, Wed Nov 11 2026. No macro, syntax, notation, axiom, sorry.
-/
import Derived.Test.YtepbnfekicdlpaaChecked
import GoSem.Claim
import GoSem.ClaimJoined
import GoSem.ClaimMapViews
import Derived.JoinedTies
import Derived.KernelRfl
namespace Go.Proofs.Ytepbnfekicdlpaa
/- THE CELL 'sum', in the pinned program and in every row, IS THE sha256 OF THE DUMP (.gsa) THAT YtepbnfekicdlpaaProg.lean LOADS. Nothing in Lean hashes anything: it is a label: what it is worth is what the hold of that sum in a sandbox is worth. -/
noncomputable def Try.pinned : Pinned := { name := "ytepbnfekicdlpaa", sum := "c719b1c4c4ca9836fd978045dd9d0b1a99f8b29f7d1d1c3dc5e8f3211c63c853", checked := Try.checked }
namespace Rows
def none {H : Type} : Left H := { results := [], args := [] }

/-- 'umpirelaw02.MarkBits': WHATEVER THE INPUT: true; the input reads as it did. -/
def markBitsSpec : ChangeSpec := { name := "markBits", fn := fun _ => fun
  | [d1, d2, d3] => { results := [.lit (.bool true)], args := [d1, d2, d3] }
  | _ => none }
def markBitsRow : OpenClaim := { program := "ytepbnfekicdlpaa", sum := "c719b1c4c4ca9836fd978045dd9d0b1a99f8b29f7d1d1c3dc5e8f3211c63c853", func := "umpire/umpirelaw02.MarkBits", spec := "markBits", unfollowed := true, recurses := true, apart := false }
def MarkBitsSaid : Prop := markBitsRow.holds Try.pinned (OpenSpec.ofChange markBitsSpec)

/-- ITS FALSE NEIGHBOUR: 'it returns false'. Refute it at one input. -/
def markBitsWrong : ChangeSpec := { name := "markBits", fn := fun _ => fun
  | [d1, d2, d3] => { results := [.lit (.bool false)], args := [d1, d2, d3] }
  | _ => none }
def MarkBitsWrongFalsely : Prop := markBitsRow.holds Try.pinned (OpenSpec.ofChange markBitsWrong)

/-- 'umpirelaw02.MarkDrops': WHATEVER THE INPUT: true; the input reads as it did. -/
def markDropsSpec : ChangeSpec := { name := "markDrops", fn := fun _ => fun
  | [d1, d2] => { results := [.lit (.bool true)], args := [d1, d2] }
  | _ => none }
def markDropsRow : OpenClaim := { program := "ytepbnfekicdlpaa", sum := "c719b1c4c4ca9836fd978045dd9d0b1a99f8b29f7d1d1c3dc5e8f3211c63c853", func := "umpire/umpirelaw02.MarkDrops", spec := "markDrops", unfollowed := true, recurses := true, apart := false }
def MarkDropsSaid : Prop := markDropsRow.holds Try.pinned (OpenSpec.ofChange markDropsSpec)

/-- ITS FALSE NEIGHBOUR: 'it returns false'. Refute it at one input. -/
def markDropsWrong : ChangeSpec := { name := "markDrops", fn := fun _ => fun
  | [d1, d2] => { results := [.lit (.bool false)], args := [d1, d2] }
  | _ => none }
def MarkDropsWrongFalsely : Prop := markDropsRow.holds Try.pinned (OpenSpec.ofChange markDropsWrong)

/-- 'umpirelaw02.MarkSlots': WHATEVER THE INPUT: true; the input reads as it did. -/
def markSlotsSpec : ChangeSpec := { name := "markSlots", fn := fun _ => fun
  | [d1, d2, d3] => { results := [.lit (.bool true)], args := [d1, d2, d3] }
  | _ => none }
def markSlotsRow : OpenClaim := { program := "ytepbnfekicdlpaa", sum := "c719b1c4c4ca9836fd978045dd9d0b1a99f8b29f7d1d1c3dc5e8f3211c63c853", func := "umpire/umpirelaw02.MarkSlots", spec := "markSlots", unfollowed := true, recurses := true, apart := false }
def MarkSlotsSaid : Prop := markSlotsRow.holds Try.pinned (OpenSpec.ofChange markSlotsSpec)

/-- ITS FALSE NEIGHBOUR: 'it returns false'. Refute it at one input. -/
def markSlotsWrong : ChangeSpec := { name := "markSlots", fn := fun _ => fun
  | [d1, d2, d3] => { results := [.lit (.bool false)], args := [d1, d2, d3] }
  | _ => none }
def MarkSlotsWrongFalsely : Prop := markSlotsRow.holds Try.pinned (OpenSpec.ofChange markSlotsWrong)

/-- 'umpirelaw02.MarkOthers': WHATEVER THE INPUT: true; the input reads as it did. -/
def markOthersSpec : ChangeSpec := { name := "markOthers", fn := fun _ => fun
  | [d1, d2, d3] => { results := [.lit (.bool true)], args := [d1, d2, d3] }
  | _ => none }
def markOthersRow : OpenClaim := { program := "ytepbnfekicdlpaa", sum := "c719b1c4c4ca9836fd978045dd9d0b1a99f8b29f7d1d1c3dc5e8f3211c63c853", func := "umpire/umpirelaw02.MarkOthers", spec := "markOthers", unfollowed := true, recurses := true, apart := false }
def MarkOthersSaid : Prop := markOthersRow.holds Try.pinned (OpenSpec.ofChange markOthersSpec)

/-- ITS FALSE NEIGHBOUR: 'it returns false'. Refute it at one input. -/
def markOthersWrong : ChangeSpec := { name := "markOthers", fn := fun _ => fun
  | [d1, d2, d3] => { results := [.lit (.bool false)], args := [d1, d2, d3] }
  | _ => none }
def MarkOthersWrongFalsely : Prop := markOthersRow.holds Try.pinned (OpenSpec.ofChange markOthersWrong)

/-- 'umpirelaw02.MarkRows': WHATEVER THE INPUT: true; the input reads as it did. -/
def markRowsSpec : ChangeSpec := { name := "markRows", fn := fun _ => fun
  | [d] => { results := [.lit (.bool true)], args := [d] }
  | _ => none }
def markRowsRow : OpenClaim := { program := "ytepbnfekicdlpaa", sum := "c719b1c4c4ca9836fd978045dd9d0b1a99f8b29f7d1d1c3dc5e8f3211c63c853", func := "umpire/umpirelaw02.MarkRows", spec := "markRows", unfollowed := true, recurses := true, apart := false }
def MarkRowsSaid : Prop := markRowsRow.holds Try.pinned (OpenSpec.ofChange markRowsSpec)

/-- ITS FALSE NEIGHBOUR: 'it returns false'. Refute it at one input. -/
def markRowsWrong : ChangeSpec := { name := "markRows", fn := fun _ => fun
  | [d] => { results := [.lit (.bool false)], args := [d] }
  | _ => none }
def MarkRowsWrongFalsely : Prop := markRowsRow.holds Try.pinned (OpenSpec.ofChange markRowsWrong)

/-- 'umpirelaw02.MarkBack': WHATEVER THE INPUT: true; the input reads as it did. -/
def markBackSpec : ChangeSpec := { name := "markBack", fn := fun _ => fun
  | [d1, d2, d3] => { results := [.lit (.bool true)], args := [d1, d2, d3] }
  | _ => none }
def markBackRow : OpenClaim := { program := "ytepbnfekicdlpaa", sum := "c719b1c4c4ca9836fd978045dd9d0b1a99f8b29f7d1d1c3dc5e8f3211c63c853", func := "umpire/umpirelaw02.MarkBack", spec := "markBack", unfollowed := true, recurses := true, apart := false }
def MarkBackSaid : Prop := markBackRow.holds Try.pinned (OpenSpec.ofChange markBackSpec)

/-- ITS FALSE NEIGHBOUR: 'it returns false'. Refute it at one input. -/
def markBackWrong : ChangeSpec := { name := "markBack", fn := fun _ => fun
  | [d1, d2, d3] => { results := [.lit (.bool false)], args := [d1, d2, d3] }
  | _ => none }
def MarkBackWrongFalsely : Prop := markBackRow.holds Try.pinned (OpenSpec.ofChange markBackWrong)

/-- 'umpirelaw02.MarkOrder': WHATEVER THE INPUT: true; the input reads as it did. -/
def markOrderSpec : ChangeSpec := { name := "markOrder", fn := fun _ => fun
  | [d1, d2] => { results := [.lit (.bool true)], args := [d1, d2] }
  | _ => none }
def markOrderRow : OpenClaim := { program := "ytepbnfekicdlpaa", sum := "c719b1c4c4ca9836fd978045dd9d0b1a99f8b29f7d1d1c3dc5e8f3211c63c853", func := "umpire/umpirelaw02.MarkOrder", spec := "markOrder", unfollowed := true, recurses := true, apart := false }
def MarkOrderSaid : Prop := markOrderRow.holds Try.pinned (OpenSpec.ofChange markOrderSpec)

/-- ITS FALSE NEIGHBOUR: 'it returns false'. Refute it at one input. -/
def markOrderWrong : ChangeSpec := { name := "markOrder", fn := fun _ => fun
  | [d1, d2] => { results := [.lit (.bool false)], args := [d1, d2] }
  | _ => none }
def MarkOrderWrongFalsely : Prop := markOrderRow.holds Try.pinned (OpenSpec.ofChange markOrderWrong)

/- THE SECOND FORM. 'bulk': how many values and letters a reading holds, each counted each time it is reached (what is shared counts as often as it is met; a slice's spare places count too). A statement '..UptoSaid' is the law's where the arguments, and the package variables that the reading takes, are together of bulk at most 1048576: NARROWER than '..Said'. Prove '..Said' where nothing that the law and all that it calls make is longer than what came in: it says more and counts as full. Else prove '..UptoSaid'. A law counts once. -/
mutual
def uptoBulk {H : Type} : DataW H → Nat
  | .lit (.string bytes) => bytes.length + 1
  | .lit _ => 1
  | .nil => 1
  | .ptr d => uptoBulk d + 1
  | .slice elems spare => uptoBulkAll elems + uptoBulkAll spare + 1
  | .agg parts => uptoBulkAll parts + 1
  | .iface _ d => uptoBulk d + 1
  | .map entries => uptoBulkEntries entries + 1
  | .held _ => 1
def uptoBulkAll {H : Type} : List (DataW H) → Nat
  | [] => 0
  | d :: r => uptoBulk d + uptoBulkAll r
def uptoBulkEntries {H : Type} : List (Lit × DataW H) → Nat
  | [] => 0
  | x :: r => uptoBulkEntry x + uptoBulkEntries r
def uptoBulkEntry {H : Type} : Lit × DataW H → Nat
  | (.string bytes, d) => bytes.length + uptoBulk d + 1
  | (_, d) => uptoBulk d + 1
 end
def uptoSmall : (H : Type) → List (DataW H) → Bool := fun _ ds => decide (uptoBulkAll ds ≤ 1048576)
def OpenSpec.upto (s : _root_.Go.ChangeSpec) : _root_.Go.OpenSpec := { _root_.Go.OpenSpec.ofChange s with cond := some uptoSmall }

/-- 'umpirelaw02.MarkBits', WHERE WHAT IT READS IS OF BULK AT MOST 1048576: true; the input reads as it did. -/
def markBitsUptoRow : OpenClaim := { program := "ytepbnfekicdlpaa", sum := "c719b1c4c4ca9836fd978045dd9d0b1a99f8b29f7d1d1c3dc5e8f3211c63c853", func := "umpire/umpirelaw02.MarkBits", spec := "markBits", unfollowed := true, recurses := true, apart := false, narrowed := true }
def MarkBitsUptoSaid : Prop := markBitsUptoRow.holds Try.pinned (OpenSpec.upto markBitsSpec)

/-- 'umpirelaw02.MarkDrops', WHERE WHAT IT READS IS OF BULK AT MOST 1048576: true; the input reads as it did. -/
def markDropsUptoRow : OpenClaim := { program := "ytepbnfekicdlpaa", sum := "c719b1c4c4ca9836fd978045dd9d0b1a99f8b29f7d1d1c3dc5e8f3211c63c853", func := "umpire/umpirelaw02.MarkDrops", spec := "markDrops", unfollowed := true, recurses := true, apart := false, narrowed := true }
def MarkDropsUptoSaid : Prop := markDropsUptoRow.holds Try.pinned (OpenSpec.upto markDropsSpec)

/-- 'umpirelaw02.MarkSlots', WHERE WHAT IT READS IS OF BULK AT MOST 1048576: true; the input reads as it did. -/
def markSlotsUptoRow : OpenClaim := { program := "ytepbnfekicdlpaa", sum := "c719b1c4c4ca9836fd978045dd9d0b1a99f8b29f7d1d1c3dc5e8f3211c63c853", func := "umpire/umpirelaw02.MarkSlots", spec := "markSlots", unfollowed := true, recurses := true, apart := false, narrowed := true }
def MarkSlotsUptoSaid : Prop := markSlotsUptoRow.holds Try.pinned (OpenSpec.upto markSlotsSpec)

/-- 'umpirelaw02.MarkOthers', WHERE WHAT IT READS IS OF BULK AT MOST 1048576: true; the input reads as it did. -/
def markOthersUptoRow : OpenClaim := { program := "ytepbnfekicdlpaa", sum := "c719b1c4c4ca9836fd978045dd9d0b1a99f8b29f7d1d1c3dc5e8f3211c63c853", func := "umpire/umpirelaw02.MarkOthers", spec := "markOthers", unfollowed := true, recurses := true, apart := false, narrowed := true }
def MarkOthersUptoSaid : Prop := markOthersUptoRow.holds Try.pinned (OpenSpec.upto markOthersSpec)

/-- 'umpirelaw02.MarkRows', WHERE WHAT IT READS IS OF BULK AT MOST 1048576: true; the input reads as it did. -/
def markRowsUptoRow : OpenClaim := { program := "ytepbnfekicdlpaa", sum := "c719b1c4c4ca9836fd978045dd9d0b1a99f8b29f7d1d1c3dc5e8f3211c63c853", func := "umpire/umpirelaw02.MarkRows", spec := "markRows", unfollowed := true, recurses := true, apart := false, narrowed := true }
def MarkRowsUptoSaid : Prop := markRowsUptoRow.holds Try.pinned (OpenSpec.upto markRowsSpec)

/-- 'umpirelaw02.MarkBack', WHERE WHAT IT READS IS OF BULK AT MOST 1048576: true; the input reads as it did. -/
def markBackUptoRow : OpenClaim := { program := "ytepbnfekicdlpaa", sum := "c719b1c4c4ca9836fd978045dd9d0b1a99f8b29f7d1d1c3dc5e8f3211c63c853", func := "umpire/umpirelaw02.MarkBack", spec := "markBack", unfollowed := true, recurses := true, apart := false, narrowed := true }
def MarkBackUptoSaid : Prop := markBackUptoRow.holds Try.pinned (OpenSpec.upto markBackSpec)

/-- 'umpirelaw02.MarkOrder', WHERE WHAT IT READS IS OF BULK AT MOST 1048576: true; the input reads as it did. -/
def markOrderUptoRow : OpenClaim := { program := "ytepbnfekicdlpaa", sum := "c719b1c4c4ca9836fd978045dd9d0b1a99f8b29f7d1d1c3dc5e8f3211c63c853", func := "umpire/umpirelaw02.MarkOrder", spec := "markOrder", unfollowed := true, recurses := true, apart := false, narrowed := true }
def MarkOrderUptoSaid : Prop := markOrderUptoRow.holds Try.pinned (OpenSpec.upto markOrderSpec)

end Rows
end Go.Proofs.Ytepbnfekicdlpaa
