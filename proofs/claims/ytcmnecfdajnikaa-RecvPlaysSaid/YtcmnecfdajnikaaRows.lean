/-
  No cell of these rows narrows 'for every input' (looked for: loops, veiled, ifaces, maps, wideKeys, modest, calm, conditions, laid).
  DERIVED. THE GIVEN ROWS OF THIS SEAT. 5 by the template 'for every input the law returns true; each argument reads behind the call as it read before'; 0 by the template 'total and deterministic' (their statements: YtcmnecfdajnikaaTotals.lean).
  GIVEN WITH THE SEED: the statements are not yours to turn. If you find one false, say at which input.
  Laid BY PROGRAM, IN A SANDBOX (cutbox-rows.mjs): the forced cells as the released guide's own fill.sh prints them over the translation 391a6e968c832936… (all of the seat's roots in one cut). By AI agents, Wed Nov 11 2026. No macro, syntax, notation, axiom, sorry.
-/
import Derived.Test.YtcmnecfdajnikaaChecked
import GoSem.Claim
import GoSem.ClaimJoined
import GoSem.ClaimMapViews
import Derived.JoinedTies
import Derived.KernelRfl
namespace Go.Proofs.Ytcmnecfdajnikaa
/- THE CELL 'sum', in the pinned program and in every row, IS THE sha256 OF THE DUMP (.gsa) THAT YtcmnecfdajnikaaProg.lean LOADS. Nothing in Lean hashes anything: it is a label: what it is worth is what the hold of that sum in a sandbox is worth. -/
noncomputable def Try.pinned : Pinned := { name := "ytcmnecfdajnikaa", sum := "391a6e968c8329362e5f9729d2738fc8e014460d6a7109536984819a3af82094", checked := Try.checked }
namespace Rows
def none {H : Type} : Left H := { results := [], args := [] }

/-- 'folkmootlaw10.RecvGaps': WHATEVER THE INPUT: true; the input reads as it did. -/
def recvGapsSpec : ChangeSpec := { name := "recvGaps", fn := fun _ => fun
  | [d1, d2] => { results := [.lit (.bool true)], args := [d1, d2] }
  | _ => none }
def recvGapsRow : OpenClaim := { program := "ytcmnecfdajnikaa", sum := "391a6e968c8329362e5f9729d2738fc8e014460d6a7109536984819a3af82094", func := "folkmoot/folkmootlaw10.RecvGaps", spec := "recvGaps", apart := false }
def RecvGapsSaid : Prop := recvGapsRow.holds Try.pinned (OpenSpec.ofChange recvGapsSpec)

/-- ITS FALSE NEIGHBOUR: 'it returns false'. Refute it at one input. -/
def recvGapsWrong : ChangeSpec := { name := "recvGaps", fn := fun _ => fun
  | [d1, d2] => { results := [.lit (.bool false)], args := [d1, d2] }
  | _ => none }
def RecvGapsWrongFalsely : Prop := recvGapsRow.holds Try.pinned (OpenSpec.ofChange recvGapsWrong)

/-- 'folkmootlaw10.RecvRoom': WHATEVER THE INPUT: true; the input reads as it did. -/
def recvRoomSpec : ChangeSpec := { name := "recvRoom", fn := fun _ => fun
  | [d1, d2] => { results := [.lit (.bool true)], args := [d1, d2] }
  | _ => none }
def recvRoomRow : OpenClaim := { program := "ytcmnecfdajnikaa", sum := "391a6e968c8329362e5f9729d2738fc8e014460d6a7109536984819a3af82094", func := "folkmoot/folkmootlaw10.RecvRoom", spec := "recvRoom", apart := false }
def RecvRoomSaid : Prop := recvRoomRow.holds Try.pinned (OpenSpec.ofChange recvRoomSpec)

/-- ITS FALSE NEIGHBOUR: 'it returns false'. Refute it at one input. -/
def recvRoomWrong : ChangeSpec := { name := "recvRoom", fn := fun _ => fun
  | [d1, d2] => { results := [.lit (.bool false)], args := [d1, d2] }
  | _ => none }
def RecvRoomWrongFalsely : Prop := recvRoomRow.holds Try.pinned (OpenSpec.ofChange recvRoomWrong)

/-- 'folkmootlaw10.RecvTwice': WHATEVER THE INPUT: true; the input reads as it did. -/
def recvTwiceSpec : ChangeSpec := { name := "recvTwice", fn := fun _ => fun
  | [d1, d2] => { results := [.lit (.bool true)], args := [d1, d2] }
  | _ => none }
def recvTwiceRow : OpenClaim := { program := "ytcmnecfdajnikaa", sum := "391a6e968c8329362e5f9729d2738fc8e014460d6a7109536984819a3af82094", func := "folkmoot/folkmootlaw10.RecvTwice", spec := "recvTwice", apart := false }
def RecvTwiceSaid : Prop := recvTwiceRow.holds Try.pinned (OpenSpec.ofChange recvTwiceSpec)

/-- ITS FALSE NEIGHBOUR: 'it returns false'. Refute it at one input. -/
def recvTwiceWrong : ChangeSpec := { name := "recvTwice", fn := fun _ => fun
  | [d1, d2] => { results := [.lit (.bool false)], args := [d1, d2] }
  | _ => none }
def RecvTwiceWrongFalsely : Prop := recvTwiceRow.holds Try.pinned (OpenSpec.ofChange recvTwiceWrong)

/-- 'folkmootlaw10.RecvPlays': WHATEVER THE INPUT: true; the input reads as it did. -/
def recvPlaysSpec : ChangeSpec := { name := "recvPlays", fn := fun _ => fun
  | [d1, d2] => { results := [.lit (.bool true)], args := [d1, d2] }
  | _ => none }
def recvPlaysRow : OpenClaim := { program := "ytcmnecfdajnikaa", sum := "391a6e968c8329362e5f9729d2738fc8e014460d6a7109536984819a3af82094", func := "folkmoot/folkmootlaw10.RecvPlays", spec := "recvPlays", apart := false }
def RecvPlaysSaid : Prop := recvPlaysRow.holds Try.pinned (OpenSpec.ofChange recvPlaysSpec)

/-- ITS FALSE NEIGHBOUR: 'it returns false'. Refute it at one input. -/
def recvPlaysWrong : ChangeSpec := { name := "recvPlays", fn := fun _ => fun
  | [d1, d2] => { results := [.lit (.bool false)], args := [d1, d2] }
  | _ => none }
def RecvPlaysWrongFalsely : Prop := recvPlaysRow.holds Try.pinned (OpenSpec.ofChange recvPlaysWrong)

/-- 'folkmootlaw10.RecvNil': WHATEVER THE INPUT: true; the input reads as it did. -/
def recvNilSpec : ChangeSpec := { name := "recvNil", fn := fun _ => fun
  | [d1, d2] => { results := [.lit (.bool true)], args := [d1, d2] }
  | _ => none }
def recvNilRow : OpenClaim := { program := "ytcmnecfdajnikaa", sum := "391a6e968c8329362e5f9729d2738fc8e014460d6a7109536984819a3af82094", func := "folkmoot/folkmootlaw10.RecvNil", spec := "recvNil", apart := false }
def RecvNilSaid : Prop := recvNilRow.holds Try.pinned (OpenSpec.ofChange recvNilSpec)

/-- ITS FALSE NEIGHBOUR: 'it returns false'. Refute it at one input. -/
def recvNilWrong : ChangeSpec := { name := "recvNil", fn := fun _ => fun
  | [d1, d2] => { results := [.lit (.bool false)], args := [d1, d2] }
  | _ => none }
def RecvNilWrongFalsely : Prop := recvNilRow.holds Try.pinned (OpenSpec.ofChange recvNilWrong)

/- THE SECOND FORM. 'bulk': how many values and letters a reading holds, each counted each time it is reached (what is shared counts as often as it is met; a slice's spare places count too). A statement '..UptoSaid' is the law's where the arguments, and the package variables that the reading takes, are together of bulk at most 1048576: NARROWER than '..Said'. Prove '..Said' where nothing that the law and all that it calls make is longer than what came in: it says more and counts as full. Else prove '..UptoSaid'. A law counts once. -/
mutual
def uptoBulk {H : Type} : DataW H → Nat
  | .lit (.string bytes) => bytes.length + 1
  | .lit _ => 1
  | .nil => 1
  | .ptr d => uptoBulk d + 1
  | .slice elems spare => uptoBulkAll elems + uptoBulkAll spare + 1
  | .agg parts => uptoBulkAll parts + 1
  | .iface _ d => uptoBulk d + 1
  | .map entries => uptoBulkEntries entries + 1
  | .held _ => 1
def uptoBulkAll {H : Type} : List (DataW H) → Nat
  | [] => 0
  | d :: r => uptoBulk d + uptoBulkAll r
def uptoBulkEntries {H : Type} : List (Lit × DataW H) → Nat
  | [] => 0
  | x :: r => uptoBulkEntry x + uptoBulkEntries r
def uptoBulkEntry {H : Type} : Lit × DataW H → Nat
  | (.string bytes, d) => bytes.length + uptoBulk d + 1
  | (_, d) => uptoBulk d + 1
 end
def uptoSmall : (H : Type) → List (DataW H) → Bool := fun _ ds => decide (uptoBulkAll ds ≤ 1048576)
def OpenSpec.upto (s : _root_.Go.ChangeSpec) : _root_.Go.OpenSpec := { _root_.Go.OpenSpec.ofChange s with cond := some uptoSmall }

/-- 'folkmootlaw10.RecvGaps', WHERE WHAT IT READS IS OF BULK AT MOST 1048576: true; the input reads as it did. -/
def recvGapsUptoRow : OpenClaim := { program := "ytcmnecfdajnikaa", sum := "391a6e968c8329362e5f9729d2738fc8e014460d6a7109536984819a3af82094", func := "folkmoot/folkmootlaw10.RecvGaps", spec := "recvGaps", apart := false, narrowed := true }
def RecvGapsUptoSaid : Prop := recvGapsUptoRow.holds Try.pinned (OpenSpec.upto recvGapsSpec)

/-- 'folkmootlaw10.RecvRoom', WHERE WHAT IT READS IS OF BULK AT MOST 1048576: true; the input reads as it did. -/
def recvRoomUptoRow : OpenClaim := { program := "ytcmnecfdajnikaa", sum := "391a6e968c8329362e5f9729d2738fc8e014460d6a7109536984819a3af82094", func := "folkmoot/folkmootlaw10.RecvRoom", spec := "recvRoom", apart := false, narrowed := true }
def RecvRoomUptoSaid : Prop := recvRoomUptoRow.holds Try.pinned (OpenSpec.upto recvRoomSpec)

/-- 'folkmootlaw10.RecvTwice', WHERE WHAT IT READS IS OF BULK AT MOST 1048576: true; the input reads as it did. -/
def recvTwiceUptoRow : OpenClaim := { program := "ytcmnecfdajnikaa", sum := "391a6e968c8329362e5f9729d2738fc8e014460d6a7109536984819a3af82094", func := "folkmoot/folkmootlaw10.RecvTwice", spec := "recvTwice", apart := false, narrowed := true }
def RecvTwiceUptoSaid : Prop := recvTwiceUptoRow.holds Try.pinned (OpenSpec.upto recvTwiceSpec)

/-- 'folkmootlaw10.RecvPlays', WHERE WHAT IT READS IS OF BULK AT MOST 1048576: true; the input reads as it did. -/
def recvPlaysUptoRow : OpenClaim := { program := "ytcmnecfdajnikaa", sum := "391a6e968c8329362e5f9729d2738fc8e014460d6a7109536984819a3af82094", func := "folkmoot/folkmootlaw10.RecvPlays", spec := "recvPlays", apart := false, narrowed := true }
def RecvPlaysUptoSaid : Prop := recvPlaysUptoRow.holds Try.pinned (OpenSpec.upto recvPlaysSpec)

/-- 'folkmootlaw10.RecvNil', WHERE WHAT IT READS IS OF BULK AT MOST 1048576: true; the input reads as it did. -/
def recvNilUptoRow : OpenClaim := { program := "ytcmnecfdajnikaa", sum := "391a6e968c8329362e5f9729d2738fc8e014460d6a7109536984819a3af82094", func := "folkmoot/folkmootlaw10.RecvNil", spec := "recvNil", apart := false, narrowed := true }
def RecvNilUptoSaid : Prop := recvNilUptoRow.holds Try.pinned (OpenSpec.upto recvNilSpec)

end Rows
end Go.Proofs.Ytcmnecfdajnikaa
