/-
  No cell of these rows narrows 'for every input' (looked for: loops, veiled, ifaces, maps, wideKeys, modest, calm, conditions, laid).
  DERIVED. THE GIVEN ROWS OF THIS SEAT. 5 by the template 'for every input the law returns true; each argument reads behind the call as it read before'; 0 by the template 'total and deterministic' (their statements: YtcpfgnbmnhelhaaTotals.lean).
  GIVEN WITH THE SEED: the statements are not yours to turn. If you find one false, say at which input.
  Laid BY PROGRAM, IN A SANDBOX (cutbox-rows.mjs): the forced cells as the released guide's own fill.sh prints them over the translation f01d3fe95d09bb8d… (all of the seat's roots in one cut). By AI agents, Wed Nov 11 2026. No macro, syntax, notation, axiom, sorry.
-/
import Derived.Test.YtcpfgnbmnhelhaaChecked
import GoSem.Claim
import GoSem.ClaimJoined
import GoSem.ClaimMapViews
import Derived.JoinedTies
import Derived.KernelRfl
namespace Go.Proofs.Ytcpfgnbmnhelhaa
/- THE CELL 'sum', in the pinned program and in every row, IS THE sha256 OF THE DUMP (.gsa) THAT YtcpfgnbmnhelhaaProg.lean LOADS. Nothing in Lean hashes anything: it is a label: what it is worth is what the hold of that sum in a sandbox is worth. -/
noncomputable def Try.pinned : Pinned := { name := "ytcpfgnbmnhelhaa", sum := "f01d3fe95d09bb8d62ee7773b996dccab716ac49d58b4ed80c58c2268142d7d7", checked := Try.checked }
namespace Rows
def none {H : Type} : Left H := { results := [], args := [] }

/-- 'folkmootlaw03.RingTurns': WHATEVER THE INPUT: true; the input reads as it did. -/
def ringTurnsSpec : ChangeSpec := { name := "ringTurns", fn := fun _ => fun
  | [d1, d2, d3] => { results := [.lit (.bool true)], args := [d1, d2, d3] }
  | _ => none }
def ringTurnsRow : OpenClaim := { program := "ytcpfgnbmnhelhaa", sum := "f01d3fe95d09bb8d62ee7773b996dccab716ac49d58b4ed80c58c2268142d7d7", func := "folkmoot/folkmootlaw03.RingTurns", spec := "ringTurns", apart := false }
def RingTurnsSaid : Prop := ringTurnsRow.holds Try.pinned (OpenSpec.ofChange ringTurnsSpec)

/-- ITS FALSE NEIGHBOUR: 'it returns false'. Refute it at one input. -/
def ringTurnsWrong : ChangeSpec := { name := "ringTurns", fn := fun _ => fun
  | [d1, d2, d3] => { results := [.lit (.bool false)], args := [d1, d2, d3] }
  | _ => none }
def RingTurnsWrongFalsely : Prop := ringTurnsRow.holds Try.pinned (OpenSpec.ofChange ringTurnsWrong)

/-- 'folkmootlaw03.RingKinds': WHATEVER THE INPUT: true; the input reads as it did. -/
def ringKindsSpec : ChangeSpec := { name := "ringKinds", fn := fun _ => fun
  | [d1, d2] => { results := [.lit (.bool true)], args := [d1, d2] }
  | _ => none }
def ringKindsRow : OpenClaim := { program := "ytcpfgnbmnhelhaa", sum := "f01d3fe95d09bb8d62ee7773b996dccab716ac49d58b4ed80c58c2268142d7d7", func := "folkmoot/folkmootlaw03.RingKinds", spec := "ringKinds", apart := false }
def RingKindsSaid : Prop := ringKindsRow.holds Try.pinned (OpenSpec.ofChange ringKindsSpec)

/-- ITS FALSE NEIGHBOUR: 'it returns false'. Refute it at one input. -/
def ringKindsWrong : ChangeSpec := { name := "ringKinds", fn := fun _ => fun
  | [d1, d2] => { results := [.lit (.bool false)], args := [d1, d2] }
  | _ => none }
def RingKindsWrongFalsely : Prop := ringKindsRow.holds Try.pinned (OpenSpec.ofChange ringKindsWrong)

/-- 'folkmootlaw03.RingPlays': WHATEVER THE INPUT: true; the input reads as it did. -/
def ringPlaysSpec : ChangeSpec := { name := "ringPlays", fn := fun _ => fun
  | [d1, d2] => { results := [.lit (.bool true)], args := [d1, d2] }
  | _ => none }
def ringPlaysRow : OpenClaim := { program := "ytcpfgnbmnhelhaa", sum := "f01d3fe95d09bb8d62ee7773b996dccab716ac49d58b4ed80c58c2268142d7d7", func := "folkmoot/folkmootlaw03.RingPlays", spec := "ringPlays", apart := false }
def RingPlaysSaid : Prop := ringPlaysRow.holds Try.pinned (OpenSpec.ofChange ringPlaysSpec)

/-- ITS FALSE NEIGHBOUR: 'it returns false'. Refute it at one input. -/
def ringPlaysWrong : ChangeSpec := { name := "ringPlays", fn := fun _ => fun
  | [d1, d2] => { results := [.lit (.bool false)], args := [d1, d2] }
  | _ => none }
def RingPlaysWrongFalsely : Prop := ringPlaysRow.holds Try.pinned (OpenSpec.ofChange ringPlaysWrong)

/-- 'folkmootlaw03.RingNil': WHATEVER THE INPUT: true; the input reads as it did. -/
def ringNilSpec : ChangeSpec := { name := "ringNil", fn := fun _ => fun
  | [d1, d2] => { results := [.lit (.bool true)], args := [d1, d2] }
  | _ => none }
def ringNilRow : OpenClaim := { program := "ytcpfgnbmnhelhaa", sum := "f01d3fe95d09bb8d62ee7773b996dccab716ac49d58b4ed80c58c2268142d7d7", func := "folkmoot/folkmootlaw03.RingNil", spec := "ringNil", apart := false }
def RingNilSaid : Prop := ringNilRow.holds Try.pinned (OpenSpec.ofChange ringNilSpec)

/-- ITS FALSE NEIGHBOUR: 'it returns false'. Refute it at one input. -/
def ringNilWrong : ChangeSpec := { name := "ringNil", fn := fun _ => fun
  | [d1, d2] => { results := [.lit (.bool false)], args := [d1, d2] }
  | _ => none }
def RingNilWrongFalsely : Prop := ringNilRow.holds Try.pinned (OpenSpec.ofChange ringNilWrong)

/-- 'folkmootlaw03.RingFirsts': WHATEVER THE INPUT: true; the input reads as it did. -/
def ringFirstsSpec : ChangeSpec := { name := "ringFirsts", fn := fun _ => fun
  | [d1, d2, d3] => { results := [.lit (.bool true)], args := [d1, d2, d3] }
  | _ => none }
def ringFirstsRow : OpenClaim := { program := "ytcpfgnbmnhelhaa", sum := "f01d3fe95d09bb8d62ee7773b996dccab716ac49d58b4ed80c58c2268142d7d7", func := "folkmoot/folkmootlaw03.RingFirsts", spec := "ringFirsts", apart := false }
def RingFirstsSaid : Prop := ringFirstsRow.holds Try.pinned (OpenSpec.ofChange ringFirstsSpec)

/-- ITS FALSE NEIGHBOUR: 'it returns false'. Refute it at one input. -/
def ringFirstsWrong : ChangeSpec := { name := "ringFirsts", fn := fun _ => fun
  | [d1, d2, d3] => { results := [.lit (.bool false)], args := [d1, d2, d3] }
  | _ => none }
def RingFirstsWrongFalsely : Prop := ringFirstsRow.holds Try.pinned (OpenSpec.ofChange ringFirstsWrong)

/- THE SECOND FORM. 'bulk': how many values and letters a reading holds, each counted each time it is reached (what is shared counts as often as it is met; a slice's spare places count too). A statement '..UptoSaid' is the law's where the arguments, and the package variables that the reading takes, are together of bulk at most 1048576: NARROWER than '..Said'. Prove '..Said' where nothing that the law and all that it calls make is longer than what came in: it says more and counts as full. Else prove '..UptoSaid'. A law counts once. -/
mutual
def uptoBulk {H : Type} : DataW H → Nat
  | .lit (.string bytes) => bytes.length + 1
  | .lit _ => 1
  | .nil => 1
  | .ptr d => uptoBulk d + 1
  | .slice elems spare => uptoBulkAll elems + uptoBulkAll spare + 1
  | .agg parts => uptoBulkAll parts + 1
  | .iface _ d => uptoBulk d + 1
  | .map entries => uptoBulkEntries entries + 1
  | .held _ => 1
def uptoBulkAll {H : Type} : List (DataW H) → Nat
  | [] => 0
  | d :: r => uptoBulk d + uptoBulkAll r
def uptoBulkEntries {H : Type} : List (Lit × DataW H) → Nat
  | [] => 0
  | x :: r => uptoBulkEntry x + uptoBulkEntries r
def uptoBulkEntry {H : Type} : Lit × DataW H → Nat
  | (.string bytes, d) => bytes.length + uptoBulk d + 1
  | (_, d) => uptoBulk d + 1
 end
def uptoSmall : (H : Type) → List (DataW H) → Bool := fun _ ds => decide (uptoBulkAll ds ≤ 1048576)
def OpenSpec.upto (s : _root_.Go.ChangeSpec) : _root_.Go.OpenSpec := { _root_.Go.OpenSpec.ofChange s with cond := some uptoSmall }

/-- 'folkmootlaw03.RingTurns', WHERE WHAT IT READS IS OF BULK AT MOST 1048576: true; the input reads as it did. -/
def ringTurnsUptoRow : OpenClaim := { program := "ytcpfgnbmnhelhaa", sum := "f01d3fe95d09bb8d62ee7773b996dccab716ac49d58b4ed80c58c2268142d7d7", func := "folkmoot/folkmootlaw03.RingTurns", spec := "ringTurns", apart := false, narrowed := true }
def RingTurnsUptoSaid : Prop := ringTurnsUptoRow.holds Try.pinned (OpenSpec.upto ringTurnsSpec)

/-- 'folkmootlaw03.RingKinds', WHERE WHAT IT READS IS OF BULK AT MOST 1048576: true; the input reads as it did. -/
def ringKindsUptoRow : OpenClaim := { program := "ytcpfgnbmnhelhaa", sum := "f01d3fe95d09bb8d62ee7773b996dccab716ac49d58b4ed80c58c2268142d7d7", func := "folkmoot/folkmootlaw03.RingKinds", spec := "ringKinds", apart := false, narrowed := true }
def RingKindsUptoSaid : Prop := ringKindsUptoRow.holds Try.pinned (OpenSpec.upto ringKindsSpec)

/-- 'folkmootlaw03.RingPlays', WHERE WHAT IT READS IS OF BULK AT MOST 1048576: true; the input reads as it did. -/
def ringPlaysUptoRow : OpenClaim := { program := "ytcpfgnbmnhelhaa", sum := "f01d3fe95d09bb8d62ee7773b996dccab716ac49d58b4ed80c58c2268142d7d7", func := "folkmoot/folkmootlaw03.RingPlays", spec := "ringPlays", apart := false, narrowed := true }
def RingPlaysUptoSaid : Prop := ringPlaysUptoRow.holds Try.pinned (OpenSpec.upto ringPlaysSpec)

/-- 'folkmootlaw03.RingNil', WHERE WHAT IT READS IS OF BULK AT MOST 1048576: true; the input reads as it did. -/
def ringNilUptoRow : OpenClaim := { program := "ytcpfgnbmnhelhaa", sum := "f01d3fe95d09bb8d62ee7773b996dccab716ac49d58b4ed80c58c2268142d7d7", func := "folkmoot/folkmootlaw03.RingNil", spec := "ringNil", apart := false, narrowed := true }
def RingNilUptoSaid : Prop := ringNilUptoRow.holds Try.pinned (OpenSpec.upto ringNilSpec)

/-- 'folkmootlaw03.RingFirsts', WHERE WHAT IT READS IS OF BULK AT MOST 1048576: true; the input reads as it did. -/
def ringFirstsUptoRow : OpenClaim := { program := "ytcpfgnbmnhelhaa", sum := "f01d3fe95d09bb8d62ee7773b996dccab716ac49d58b4ed80c58c2268142d7d7", func := "folkmoot/folkmootlaw03.RingFirsts", spec := "ringFirsts", apart := false, narrowed := true }
def RingFirstsUptoSaid : Prop := ringFirstsUptoRow.holds Try.pinned (OpenSpec.upto ringFirstsSpec)

end Rows
end Go.Proofs.Ytcpfgnbmnhelhaa
