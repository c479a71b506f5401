/-
  No cell of these rows narrows 'for every input' (looked for: loops, veiled, ifaces, maps, wideKeys, modest, calm, conditions, laid).
  DERIVED. THE GIVEN ROWS OF THIS SEAT. 7 by the template 'for every input the law returns true; each argument reads behind the call as it read before'; 0 by the template 'total and deterministic' (their statements: YtagemhmjpfldoaaTotals.lean).
  GIVEN WITH THE SEED: the statements are not yours to turn. If you find one false, say at which input.
  Laid BY PROGRAM, IN A SANDBOX (cutbox-rows.mjs): the forced cells as the released guide's own fill.sh prints them over the translation 929cff978d30787a… (all of the seat's roots in one cut). By AI agents, Wed Nov 11 2026. No macro, syntax, notation, axiom, sorry.
-/
import Derived.Test.YtagemhmjpfldoaaChecked
import GoSem.Claim
import GoSem.ClaimJoined
import GoSem.ClaimMapViews
import Derived.JoinedTies
import Derived.KernelRfl
namespace Go.Proofs.Ytagemhmjpfldoaa
/- THE CELL 'sum', in the pinned program and in every row, IS THE sha256 OF THE DUMP (.gsa) THAT YtagemhmjpfldoaaProg.lean LOADS. Nothing in Lean hashes anything: it is a label: what it is worth is what the hold of that sum in a sandbox is worth. -/
noncomputable def Try.pinned : Pinned := { name := "ytagemhmjpfldoaa", sum := "929cff978d30787a98bdcc468093625080c14bdac4a5470eb261b4be08b1690d", checked := Try.checked }
namespace Rows
def none {H : Type} : Left H := { results := [], args := [] }

/-- 'folkmootlaw11.LinkPlays': WHATEVER THE INPUT: true; the input reads as it did. -/
def linkPlaysSpec : ChangeSpec := { name := "linkPlays", fn := fun _ => fun
  | [d1, d2, d3] => { results := [.lit (.bool true)], args := [d1, d2, d3] }
  | _ => none }
def linkPlaysRow : OpenClaim := { program := "ytagemhmjpfldoaa", sum := "929cff978d30787a98bdcc468093625080c14bdac4a5470eb261b4be08b1690d", func := "folkmoot/folkmootlaw11.LinkPlays", spec := "linkPlays", apart := false }
def LinkPlaysSaid : Prop := linkPlaysRow.holds Try.pinned (OpenSpec.ofChange linkPlaysSpec)

/-- ITS FALSE NEIGHBOUR: 'it returns false'. Refute it at one input. -/
def linkPlaysWrong : ChangeSpec := { name := "linkPlays", fn := fun _ => fun
  | [d1, d2, d3] => { results := [.lit (.bool false)], args := [d1, d2, d3] }
  | _ => none }
def LinkPlaysWrongFalsely : Prop := linkPlaysRow.holds Try.pinned (OpenSpec.ofChange linkPlaysWrong)

/-- 'folkmootlaw11.LinkEnds': WHATEVER THE INPUT: true; the input reads as it did. -/
def linkEndsSpec : ChangeSpec := { name := "linkEnds", fn := fun _ => fun
  | [d1, d2, d3] => { results := [.lit (.bool true)], args := [d1, d2, d3] }
  | _ => none }
def linkEndsRow : OpenClaim := { program := "ytagemhmjpfldoaa", sum := "929cff978d30787a98bdcc468093625080c14bdac4a5470eb261b4be08b1690d", func := "folkmoot/folkmootlaw11.LinkEnds", spec := "linkEnds", apart := false }
def LinkEndsSaid : Prop := linkEndsRow.holds Try.pinned (OpenSpec.ofChange linkEndsSpec)

/-- ITS FALSE NEIGHBOUR: 'it returns false'. Refute it at one input. -/
def linkEndsWrong : ChangeSpec := { name := "linkEnds", fn := fun _ => fun
  | [d1, d2, d3] => { results := [.lit (.bool false)], args := [d1, d2, d3] }
  | _ => none }
def LinkEndsWrongFalsely : Prop := linkEndsRow.holds Try.pinned (OpenSpec.ofChange linkEndsWrong)

/-- 'folkmootlaw11.LinkIns': WHATEVER THE INPUT: true; the input reads as it did. -/
def linkInsSpec : ChangeSpec := { name := "linkIns", fn := fun _ => fun
  | [d1, d2, d3] => { results := [.lit (.bool true)], args := [d1, d2, d3] }
  | _ => none }
def linkInsRow : OpenClaim := { program := "ytagemhmjpfldoaa", sum := "929cff978d30787a98bdcc468093625080c14bdac4a5470eb261b4be08b1690d", func := "folkmoot/folkmootlaw11.LinkIns", spec := "linkIns", apart := false }
def LinkInsSaid : Prop := linkInsRow.holds Try.pinned (OpenSpec.ofChange linkInsSpec)

/-- ITS FALSE NEIGHBOUR: 'it returns false'. Refute it at one input. -/
def linkInsWrong : ChangeSpec := { name := "linkIns", fn := fun _ => fun
  | [d1, d2, d3] => { results := [.lit (.bool false)], args := [d1, d2, d3] }
  | _ => none }
def LinkInsWrongFalsely : Prop := linkInsRow.holds Try.pinned (OpenSpec.ofChange linkInsWrong)

/-- 'folkmootlaw11.LinkEpochs': WHATEVER THE INPUT: true; the input reads as it did. -/
def linkEpochsSpec : ChangeSpec := { name := "linkEpochs", fn := fun _ => fun
  | [d1, d2, d3, d4, d5] => { results := [.lit (.bool true)], args := [d1, d2, d3, d4, d5] }
  | _ => none }
def linkEpochsRow : OpenClaim := { program := "ytagemhmjpfldoaa", sum := "929cff978d30787a98bdcc468093625080c14bdac4a5470eb261b4be08b1690d", func := "folkmoot/folkmootlaw11.LinkEpochs", spec := "linkEpochs", apart := false }
def LinkEpochsSaid : Prop := linkEpochsRow.holds Try.pinned (OpenSpec.ofChange linkEpochsSpec)

/-- ITS FALSE NEIGHBOUR: 'it returns false'. Refute it at one input. -/
def linkEpochsWrong : ChangeSpec := { name := "linkEpochs", fn := fun _ => fun
  | [d1, d2, d3, d4, d5] => { results := [.lit (.bool false)], args := [d1, d2, d3, d4, d5] }
  | _ => none }
def LinkEpochsWrongFalsely : Prop := linkEpochsRow.holds Try.pinned (OpenSpec.ofChange linkEpochsWrong)

/-- 'folkmootlaw11.LinkAgain': WHATEVER THE INPUT: true; the input reads as it did. -/
def linkAgainSpec : ChangeSpec := { name := "linkAgain", fn := fun _ => fun
  | [d1, d2, d3] => { results := [.lit (.bool true)], args := [d1, d2, d3] }
  | _ => none }
def linkAgainRow : OpenClaim := { program := "ytagemhmjpfldoaa", sum := "929cff978d30787a98bdcc468093625080c14bdac4a5470eb261b4be08b1690d", func := "folkmoot/folkmootlaw11.LinkAgain", spec := "linkAgain", apart := false }
def LinkAgainSaid : Prop := linkAgainRow.holds Try.pinned (OpenSpec.ofChange linkAgainSpec)

/-- ITS FALSE NEIGHBOUR: 'it returns false'. Refute it at one input. -/
def linkAgainWrong : ChangeSpec := { name := "linkAgain", fn := fun _ => fun
  | [d1, d2, d3] => { results := [.lit (.bool false)], args := [d1, d2, d3] }
  | _ => none }
def LinkAgainWrongFalsely : Prop := linkAgainRow.holds Try.pinned (OpenSpec.ofChange linkAgainWrong)

/-- 'folkmootlaw11.LinkBounds': WHATEVER THE INPUT: true; the input reads as it did. -/
def linkBoundsSpec : ChangeSpec := { name := "linkBounds", fn := fun _ => fun
  | [d1, d2, d3] => { results := [.lit (.bool true)], args := [d1, d2, d3] }
  | _ => none }
def linkBoundsRow : OpenClaim := { program := "ytagemhmjpfldoaa", sum := "929cff978d30787a98bdcc468093625080c14bdac4a5470eb261b4be08b1690d", func := "folkmoot/folkmootlaw11.LinkBounds", spec := "linkBounds", apart := false }
def LinkBoundsSaid : Prop := linkBoundsRow.holds Try.pinned (OpenSpec.ofChange linkBoundsSpec)

/-- ITS FALSE NEIGHBOUR: 'it returns false'. Refute it at one input. -/
def linkBoundsWrong : ChangeSpec := { name := "linkBounds", fn := fun _ => fun
  | [d1, d2, d3] => { results := [.lit (.bool false)], args := [d1, d2, d3] }
  | _ => none }
def LinkBoundsWrongFalsely : Prop := linkBoundsRow.holds Try.pinned (OpenSpec.ofChange linkBoundsWrong)

/-- 'folkmootlaw11.LinkErrs': WHATEVER THE INPUT: true; the input reads as it did. -/
def linkErrsSpec : ChangeSpec := { name := "linkErrs", fn := fun _ => fun
  | [d1, d2, d3, d4] => { results := [.lit (.bool true)], args := [d1, d2, d3, d4] }
  | _ => none }
def linkErrsRow : OpenClaim := { program := "ytagemhmjpfldoaa", sum := "929cff978d30787a98bdcc468093625080c14bdac4a5470eb261b4be08b1690d", func := "folkmoot/folkmootlaw11.LinkErrs", spec := "linkErrs", apart := false }
def LinkErrsSaid : Prop := linkErrsRow.holds Try.pinned (OpenSpec.ofChange linkErrsSpec)

/-- ITS FALSE NEIGHBOUR: 'it returns false'. Refute it at one input. -/
def linkErrsWrong : ChangeSpec := { name := "linkErrs", fn := fun _ => fun
  | [d1, d2, d3, d4] => { results := [.lit (.bool false)], args := [d1, d2, d3, d4] }
  | _ => none }
def LinkErrsWrongFalsely : Prop := linkErrsRow.holds Try.pinned (OpenSpec.ofChange linkErrsWrong)

/- THE SECOND FORM. 'bulk': how many values and letters a reading holds, each counted each time it is reached (what is shared counts as often as it is met; a slice's spare places count too). A statement '..UptoSaid' is the law's where the arguments, and the package variables that the reading takes, are together of bulk at most 1048576: NARROWER than '..Said'. Prove '..Said' where nothing that the law and all that it calls make is longer than what came in: it says more and counts as full. Else prove '..UptoSaid'. A law counts once. -/
mutual
def uptoBulk {H : Type} : DataW H → Nat
  | .lit (.string bytes) => bytes.length + 1
  | .lit _ => 1
  | .nil => 1
  | .ptr d => uptoBulk d + 1
  | .slice elems spare => uptoBulkAll elems + uptoBulkAll spare + 1
  | .agg parts => uptoBulkAll parts + 1
  | .iface _ d => uptoBulk d + 1
  | .map entries => uptoBulkEntries entries + 1
  | .held _ => 1
def uptoBulkAll {H : Type} : List (DataW H) → Nat
  | [] => 0
  | d :: r => uptoBulk d + uptoBulkAll r
def uptoBulkEntries {H : Type} : List (Lit × DataW H) → Nat
  | [] => 0
  | x :: r => uptoBulkEntry x + uptoBulkEntries r
def uptoBulkEntry {H : Type} : Lit × DataW H → Nat
  | (.string bytes, d) => bytes.length + uptoBulk d + 1
  | (_, d) => uptoBulk d + 1
 end
def uptoSmall : (H : Type) → List (DataW H) → Bool := fun _ ds => decide (uptoBulkAll ds ≤ 1048576)
def OpenSpec.upto (s : _root_.Go.ChangeSpec) : _root_.Go.OpenSpec := { _root_.Go.OpenSpec.ofChange s with cond := some uptoSmall }

/-- 'folkmootlaw11.LinkPlays', WHERE WHAT IT READS IS OF BULK AT MOST 1048576: true; the input reads as it did. -/
def linkPlaysUptoRow : OpenClaim := { program := "ytagemhmjpfldoaa", sum := "929cff978d30787a98bdcc468093625080c14bdac4a5470eb261b4be08b1690d", func := "folkmoot/folkmootlaw11.LinkPlays", spec := "linkPlays", apart := false, narrowed := true }
def LinkPlaysUptoSaid : Prop := linkPlaysUptoRow.holds Try.pinned (OpenSpec.upto linkPlaysSpec)

/-- 'folkmootlaw11.LinkEnds', WHERE WHAT IT READS IS OF BULK AT MOST 1048576: true; the input reads as it did. -/
def linkEndsUptoRow : OpenClaim := { program := "ytagemhmjpfldoaa", sum := "929cff978d30787a98bdcc468093625080c14bdac4a5470eb261b4be08b1690d", func := "folkmoot/folkmootlaw11.LinkEnds", spec := "linkEnds", apart := false, narrowed := true }
def LinkEndsUptoSaid : Prop := linkEndsUptoRow.holds Try.pinned (OpenSpec.upto linkEndsSpec)

/-- 'folkmootlaw11.LinkIns', WHERE WHAT IT READS IS OF BULK AT MOST 1048576: true; the input reads as it did. -/
def linkInsUptoRow : OpenClaim := { program := "ytagemhmjpfldoaa", sum := "929cff978d30787a98bdcc468093625080c14bdac4a5470eb261b4be08b1690d", func := "folkmoot/folkmootlaw11.LinkIns", spec := "linkIns", apart := false, narrowed := true }
def LinkInsUptoSaid : Prop := linkInsUptoRow.holds Try.pinned (OpenSpec.upto linkInsSpec)

/-- 'folkmootlaw11.LinkEpochs', WHERE WHAT IT READS IS OF BULK AT MOST 1048576: true; the input reads as it did. -/
def linkEpochsUptoRow : OpenClaim := { program := "ytagemhmjpfldoaa", sum := "929cff978d30787a98bdcc468093625080c14bdac4a5470eb261b4be08b1690d", func := "folkmoot/folkmootlaw11.LinkEpochs", spec := "linkEpochs", apart := false, narrowed := true }
def LinkEpochsUptoSaid : Prop := linkEpochsUptoRow.holds Try.pinned (OpenSpec.upto linkEpochsSpec)

/-- 'folkmootlaw11.LinkAgain', WHERE WHAT IT READS IS OF BULK AT MOST 1048576: true; the input reads as it did. -/
def linkAgainUptoRow : OpenClaim := { program := "ytagemhmjpfldoaa", sum := "929cff978d30787a98bdcc468093625080c14bdac4a5470eb261b4be08b1690d", func := "folkmoot/folkmootlaw11.LinkAgain", spec := "linkAgain", apart := false, narrowed := true }
def LinkAgainUptoSaid : Prop := linkAgainUptoRow.holds Try.pinned (OpenSpec.upto linkAgainSpec)

/-- 'folkmootlaw11.LinkBounds', WHERE WHAT IT READS IS OF BULK AT MOST 1048576: true; the input reads as it did. -/
def linkBoundsUptoRow : OpenClaim := { program := "ytagemhmjpfldoaa", sum := "929cff978d30787a98bdcc468093625080c14bdac4a5470eb261b4be08b1690d", func := "folkmoot/folkmootlaw11.LinkBounds", spec := "linkBounds", apart := false, narrowed := true }
def LinkBoundsUptoSaid : Prop := linkBoundsUptoRow.holds Try.pinned (OpenSpec.upto linkBoundsSpec)

/-- 'folkmootlaw11.LinkErrs', WHERE WHAT IT READS IS OF BULK AT MOST 1048576: true; the input reads as it did. -/
def linkErrsUptoRow : OpenClaim := { program := "ytagemhmjpfldoaa", sum := "929cff978d30787a98bdcc468093625080c14bdac4a5470eb261b4be08b1690d", func := "folkmoot/folkmootlaw11.LinkErrs", spec := "linkErrs", apart := false, narrowed := true }
def LinkErrsUptoSaid : Prop := linkErrsUptoRow.holds Try.pinned (OpenSpec.upto linkErrsSpec)

end Rows
end Go.Proofs.Ytagemhmjpfldoaa
