/-
  No cell of these rows narrows 'for every input' (looked for: loops, veiled, ifaces, maps, wideKeys, modest, calm, conditions, laid).
  DERIVED. THE GIVEN ROWS OF THIS SEAT. 5 by the template 'for every input the law returns true; each argument reads behind the call as it read before'; 0 by the template 'total and deterministic' (their statements: YtnbdodgdabgafaaTotals.lean).
  GIVEN WITH THE SEED: the statements are not yours to turn. If you find one false, say at which input.
  Laid BY PROGRAM, IN A SANDBOX (cutbox-rows.mjs): the forced cells as the released guide's own fill.sh prints them over the translation d6781296cb7c0a7b… (all of the seat's roots in one cut). By AI agents, Wed Nov 11 2026. No macro, syntax, notation, axiom, sorry.
-/
import Derived.Test.YtnbdodgdabgafaaChecked
import GoSem.Claim
import GoSem.ClaimJoined
import GoSem.ClaimMapViews
import Derived.JoinedTies
import Derived.KernelRfl
namespace Go.Proofs.Ytnbdodgdabgafaa
/- THE CELL 'sum', in the pinned program and in every row, IS THE sha256 OF THE DUMP (.gsa) THAT YtnbdodgdabgafaaProg.lean LOADS. Nothing in Lean hashes anything: it is a label: what it is worth is what the hold of that sum in a sandbox is worth. -/
noncomputable def Try.pinned : Pinned := { name := "ytnbdodgdabgafaa", sum := "d6781296cb7c0a7b6c6f381d8b89b950ca5d01dcae66360de8c549742d3eeb52", checked := Try.checked }
namespace Rows
def none {H : Type} : Left H := { results := [], args := [] }

/-- 'folkmootlaw09.SendStays': WHATEVER THE INPUT: true; the input reads as it did. -/
def sendStaysSpec : ChangeSpec := { name := "sendStays", fn := fun _ => fun
  | [d1, d2, d3] => { results := [.lit (.bool true)], args := [d1, d2, d3] }
  | _ => none }
def sendStaysRow : OpenClaim := { program := "ytnbdodgdabgafaa", sum := "d6781296cb7c0a7b6c6f381d8b89b950ca5d01dcae66360de8c549742d3eeb52", func := "folkmoot/folkmootlaw09.SendStays", spec := "sendStays", apart := false }
def SendStaysSaid : Prop := sendStaysRow.holds Try.pinned (OpenSpec.ofChange sendStaysSpec)

/-- ITS FALSE NEIGHBOUR: 'it returns false'. Refute it at one input. -/
def sendStaysWrong : ChangeSpec := { name := "sendStays", fn := fun _ => fun
  | [d1, d2, d3] => { results := [.lit (.bool false)], args := [d1, d2, d3] }
  | _ => none }
def SendStaysWrongFalsely : Prop := sendStaysRow.holds Try.pinned (OpenSpec.ofChange sendStaysWrong)

/-- 'folkmootlaw09.SendAll': WHATEVER THE INPUT: true; the input reads as it did. -/
def sendAllSpec : ChangeSpec := { name := "sendAll", fn := fun _ => fun
  | [d1, d2, d3] => { results := [.lit (.bool true)], args := [d1, d2, d3] }
  | _ => none }
def sendAllRow : OpenClaim := { program := "ytnbdodgdabgafaa", sum := "d6781296cb7c0a7b6c6f381d8b89b950ca5d01dcae66360de8c549742d3eeb52", func := "folkmoot/folkmootlaw09.SendAll", spec := "sendAll", apart := false }
def SendAllSaid : Prop := sendAllRow.holds Try.pinned (OpenSpec.ofChange sendAllSpec)

/-- ITS FALSE NEIGHBOUR: 'it returns false'. Refute it at one input. -/
def sendAllWrong : ChangeSpec := { name := "sendAll", fn := fun _ => fun
  | [d1, d2, d3] => { results := [.lit (.bool false)], args := [d1, d2, d3] }
  | _ => none }
def SendAllWrongFalsely : Prop := sendAllRow.holds Try.pinned (OpenSpec.ofChange sendAllWrong)

/-- 'folkmootlaw09.SendAcks': WHATEVER THE INPUT: true; the input reads as it did. -/
def sendAcksSpec : ChangeSpec := { name := "sendAcks", fn := fun _ => fun
  | [d1, d2] => { results := [.lit (.bool true)], args := [d1, d2] }
  | _ => none }
def sendAcksRow : OpenClaim := { program := "ytnbdodgdabgafaa", sum := "d6781296cb7c0a7b6c6f381d8b89b950ca5d01dcae66360de8c549742d3eeb52", func := "folkmoot/folkmootlaw09.SendAcks", spec := "sendAcks", apart := false }
def SendAcksSaid : Prop := sendAcksRow.holds Try.pinned (OpenSpec.ofChange sendAcksSpec)

/-- ITS FALSE NEIGHBOUR: 'it returns false'. Refute it at one input. -/
def sendAcksWrong : ChangeSpec := { name := "sendAcks", fn := fun _ => fun
  | [d1, d2] => { results := [.lit (.bool false)], args := [d1, d2] }
  | _ => none }
def SendAcksWrongFalsely : Prop := sendAcksRow.holds Try.pinned (OpenSpec.ofChange sendAcksWrong)

/-- 'folkmootlaw09.SendPlays': WHATEVER THE INPUT: true; the input reads as it did. -/
def sendPlaysSpec : ChangeSpec := { name := "sendPlays", fn := fun _ => fun
  | [d1, d2, d3] => { results := [.lit (.bool true)], args := [d1, d2, d3] }
  | _ => none }
def sendPlaysRow : OpenClaim := { program := "ytnbdodgdabgafaa", sum := "d6781296cb7c0a7b6c6f381d8b89b950ca5d01dcae66360de8c549742d3eeb52", func := "folkmoot/folkmootlaw09.SendPlays", spec := "sendPlays", apart := false }
def SendPlaysSaid : Prop := sendPlaysRow.holds Try.pinned (OpenSpec.ofChange sendPlaysSpec)

/-- ITS FALSE NEIGHBOUR: 'it returns false'. Refute it at one input. -/
def sendPlaysWrong : ChangeSpec := { name := "sendPlays", fn := fun _ => fun
  | [d1, d2, d3] => { results := [.lit (.bool false)], args := [d1, d2, d3] }
  | _ => none }
def SendPlaysWrongFalsely : Prop := sendPlaysRow.holds Try.pinned (OpenSpec.ofChange sendPlaysWrong)

/-- 'folkmootlaw09.SendNil': WHATEVER THE INPUT: true; the input reads as it did. -/
def sendNilSpec : ChangeSpec := { name := "sendNil", fn := fun _ => fun
  | [d1, d2] => { results := [.lit (.bool true)], args := [d1, d2] }
  | _ => none }
def sendNilRow : OpenClaim := { program := "ytnbdodgdabgafaa", sum := "d6781296cb7c0a7b6c6f381d8b89b950ca5d01dcae66360de8c549742d3eeb52", func := "folkmoot/folkmootlaw09.SendNil", spec := "sendNil", apart := false }
def SendNilSaid : Prop := sendNilRow.holds Try.pinned (OpenSpec.ofChange sendNilSpec)

/-- ITS FALSE NEIGHBOUR: 'it returns false'. Refute it at one input. -/
def sendNilWrong : ChangeSpec := { name := "sendNil", fn := fun _ => fun
  | [d1, d2] => { results := [.lit (.bool false)], args := [d1, d2] }
  | _ => none }
def SendNilWrongFalsely : Prop := sendNilRow.holds Try.pinned (OpenSpec.ofChange sendNilWrong)

/- THE SECOND FORM. 'bulk': how many values and letters a reading holds, each counted each time it is reached (what is shared counts as often as it is met; a slice's spare places count too). A statement '..UptoSaid' is the law's where the arguments, and the package variables that the reading takes, are together of bulk at most 1048576: NARROWER than '..Said'. Prove '..Said' where nothing that the law and all that it calls make is longer than what came in: it says more and counts as full. Else prove '..UptoSaid'. A law counts once. -/
mutual
def uptoBulk {H : Type} : DataW H → Nat
  | .lit (.string bytes) => bytes.length + 1
  | .lit _ => 1
  | .nil => 1
  | .ptr d => uptoBulk d + 1
  | .slice elems spare => uptoBulkAll elems + uptoBulkAll spare + 1
  | .agg parts => uptoBulkAll parts + 1
  | .iface _ d => uptoBulk d + 1
  | .map entries => uptoBulkEntries entries + 1
  | .held _ => 1
def uptoBulkAll {H : Type} : List (DataW H) → Nat
  | [] => 0
  | d :: r => uptoBulk d + uptoBulkAll r
def uptoBulkEntries {H : Type} : List (Lit × DataW H) → Nat
  | [] => 0
  | x :: r => uptoBulkEntry x + uptoBulkEntries r
def uptoBulkEntry {H : Type} : Lit × DataW H → Nat
  | (.string bytes, d) => bytes.length + uptoBulk d + 1
  | (_, d) => uptoBulk d + 1
 end
def uptoSmall : (H : Type) → List (DataW H) → Bool := fun _ ds => decide (uptoBulkAll ds ≤ 1048576)
def OpenSpec.upto (s : _root_.Go.ChangeSpec) : _root_.Go.OpenSpec := { _root_.Go.OpenSpec.ofChange s with cond := some uptoSmall }

/-- 'folkmootlaw09.SendStays', WHERE WHAT IT READS IS OF BULK AT MOST 1048576: true; the input reads as it did. -/
def sendStaysUptoRow : OpenClaim := { program := "ytnbdodgdabgafaa", sum := "d6781296cb7c0a7b6c6f381d8b89b950ca5d01dcae66360de8c549742d3eeb52", func := "folkmoot/folkmootlaw09.SendStays", spec := "sendStays", apart := false, narrowed := true }
def SendStaysUptoSaid : Prop := sendStaysUptoRow.holds Try.pinned (OpenSpec.upto sendStaysSpec)

/-- 'folkmootlaw09.SendAll', WHERE WHAT IT READS IS OF BULK AT MOST 1048576: true; the input reads as it did. -/
def sendAllUptoRow : OpenClaim := { program := "ytnbdodgdabgafaa", sum := "d6781296cb7c0a7b6c6f381d8b89b950ca5d01dcae66360de8c549742d3eeb52", func := "folkmoot/folkmootlaw09.SendAll", spec := "sendAll", apart := false, narrowed := true }
def SendAllUptoSaid : Prop := sendAllUptoRow.holds Try.pinned (OpenSpec.upto sendAllSpec)

/-- 'folkmootlaw09.SendAcks', WHERE WHAT IT READS IS OF BULK AT MOST 1048576: true; the input reads as it did. -/
def sendAcksUptoRow : OpenClaim := { program := "ytnbdodgdabgafaa", sum := "d6781296cb7c0a7b6c6f381d8b89b950ca5d01dcae66360de8c549742d3eeb52", func := "folkmoot/folkmootlaw09.SendAcks", spec := "sendAcks", apart := false, narrowed := true }
def SendAcksUptoSaid : Prop := sendAcksUptoRow.holds Try.pinned (OpenSpec.upto sendAcksSpec)

/-- 'folkmootlaw09.SendPlays', WHERE WHAT IT READS IS OF BULK AT MOST 1048576: true; the input reads as it did. -/
def sendPlaysUptoRow : OpenClaim := { program := "ytnbdodgdabgafaa", sum := "d6781296cb7c0a7b6c6f381d8b89b950ca5d01dcae66360de8c549742d3eeb52", func := "folkmoot/folkmootlaw09.SendPlays", spec := "sendPlays", apart := false, narrowed := true }
def SendPlaysUptoSaid : Prop := sendPlaysUptoRow.holds Try.pinned (OpenSpec.upto sendPlaysSpec)

/-- 'folkmootlaw09.SendNil', WHERE WHAT IT READS IS OF BULK AT MOST 1048576: true; the input reads as it did. -/
def sendNilUptoRow : OpenClaim := { program := "ytnbdodgdabgafaa", sum := "d6781296cb7c0a7b6c6f381d8b89b950ca5d01dcae66360de8c549742d3eeb52", func := "folkmoot/folkmootlaw09.SendNil", spec := "sendNil", apart := false, narrowed := true }
def SendNilUptoSaid : Prop := sendNilUptoRow.holds Try.pinned (OpenSpec.upto sendNilSpec)

end Rows
end Go.Proofs.Ytnbdodgdabgafaa
