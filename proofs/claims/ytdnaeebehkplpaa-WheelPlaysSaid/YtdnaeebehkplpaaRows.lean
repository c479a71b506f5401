/-
  No cell of these rows narrows 'for every input' (looked for: loops, veiled, ifaces, maps, wideKeys, modest, calm, conditions, laid).
  DERIVED. THE GIVEN ROWS OF THIS SEAT. 7 by the template 'for every input the law returns true; each argument reads behind the call as it read before'; 0 by the template 'total and deterministic' (their statements: YtdnaeebehkplpaaTotals.lean).
  GIVEN WITH THE SEED: the statements are not yours to turn. If you find one false, say at which input.
  Laid BY PROGRAM, IN A SANDBOX (cutbox-rows.mjs): the forced cells as the released guide's own fill.sh prints them over the translation 128e114fc0bc5f97… (all of the seat's roots in one cut). By AI agents, Wed Nov 11 2026. No macro, syntax, notation, axiom, sorry.
-/
import Derived.Test.YtdnaeebehkplpaaChecked
import GoSem.Claim
import GoSem.ClaimJoined
import GoSem.ClaimMapViews
import Derived.JoinedTies
import Derived.KernelRfl
namespace Go.Proofs.Ytdnaeebehkplpaa
/- THE CELL 'sum', in the pinned program and in every row, IS THE sha256 OF THE DUMP (.gsa) THAT YtdnaeebehkplpaaProg.lean LOADS. Nothing in Lean hashes anything: it is a label: what it is worth is what the hold of that sum in a sandbox is worth. -/
noncomputable def Try.pinned : Pinned := { name := "ytdnaeebehkplpaa", sum := "128e114fc0bc5f97abbff06829e3fa35e1b58fd4c496cedf405aaa3cd74f3583", checked := Try.checked }
namespace Rows
def none {H : Type} : Left H := { results := [], args := [] }

/-- 'folkmootlaw01.WheelOrder': WHATEVER THE INPUT: true; the input reads as it did. -/
def wheelOrderSpec : ChangeSpec := { name := "wheelOrder", fn := fun _ => fun
  | [d1, d2, d3] => { results := [.lit (.bool true)], args := [d1, d2, d3] }
  | _ => none }
def wheelOrderRow : OpenClaim := { program := "ytdnaeebehkplpaa", sum := "128e114fc0bc5f97abbff06829e3fa35e1b58fd4c496cedf405aaa3cd74f3583", func := "folkmoot/folkmootlaw01.WheelOrder", spec := "wheelOrder", apart := false }
def WheelOrderSaid : Prop := wheelOrderRow.holds Try.pinned (OpenSpec.ofChange wheelOrderSpec)

/-- ITS FALSE NEIGHBOUR: 'it returns false'. Refute it at one input. -/
def wheelOrderWrong : ChangeSpec := { name := "wheelOrder", fn := fun _ => fun
  | [d1, d2, d3] => { results := [.lit (.bool false)], args := [d1, d2, d3] }
  | _ => none }
def WheelOrderWrongFalsely : Prop := wheelOrderRow.holds Try.pinned (OpenSpec.ofChange wheelOrderWrong)

/-- 'folkmootlaw01.WheelFar': WHATEVER THE INPUT: true; the input reads as it did. -/
def wheelFarSpec : ChangeSpec := { name := "wheelFar", fn := fun _ => fun
  | [d1, d2, d3] => { results := [.lit (.bool true)], args := [d1, d2, d3] }
  | _ => none }
def wheelFarRow : OpenClaim := { program := "ytdnaeebehkplpaa", sum := "128e114fc0bc5f97abbff06829e3fa35e1b58fd4c496cedf405aaa3cd74f3583", func := "folkmoot/folkmootlaw01.WheelFar", spec := "wheelFar", apart := false }
def WheelFarSaid : Prop := wheelFarRow.holds Try.pinned (OpenSpec.ofChange wheelFarSpec)

/-- ITS FALSE NEIGHBOUR: 'it returns false'. Refute it at one input. -/
def wheelFarWrong : ChangeSpec := { name := "wheelFar", fn := fun _ => fun
  | [d1, d2, d3] => { results := [.lit (.bool false)], args := [d1, d2, d3] }
  | _ => none }
def WheelFarWrongFalsely : Prop := wheelFarRow.holds Try.pinned (OpenSpec.ofChange wheelFarWrong)

/-- 'folkmootlaw01.WheelCancels': WHATEVER THE INPUT: true; the input reads as it did. -/
def wheelCancelsSpec : ChangeSpec := { name := "wheelCancels", fn := fun _ => fun
  | [d1, d2, d3] => { results := [.lit (.bool true)], args := [d1, d2, d3] }
  | _ => none }
def wheelCancelsRow : OpenClaim := { program := "ytdnaeebehkplpaa", sum := "128e114fc0bc5f97abbff06829e3fa35e1b58fd4c496cedf405aaa3cd74f3583", func := "folkmoot/folkmootlaw01.WheelCancels", spec := "wheelCancels", apart := false }
def WheelCancelsSaid : Prop := wheelCancelsRow.holds Try.pinned (OpenSpec.ofChange wheelCancelsSpec)

/-- ITS FALSE NEIGHBOUR: 'it returns false'. Refute it at one input. -/
def wheelCancelsWrong : ChangeSpec := { name := "wheelCancels", fn := fun _ => fun
  | [d1, d2, d3] => { results := [.lit (.bool false)], args := [d1, d2, d3] }
  | _ => none }
def WheelCancelsWrongFalsely : Prop := wheelCancelsRow.holds Try.pinned (OpenSpec.ofChange wheelCancelsWrong)

/-- 'folkmootlaw01.WheelShift': WHATEVER THE INPUT: true; the input reads as it did. -/
def wheelShiftSpec : ChangeSpec := { name := "wheelShift", fn := fun _ => fun
  | [d1, d2, d3] => { results := [.lit (.bool true)], args := [d1, d2, d3] }
  | _ => none }
def wheelShiftRow : OpenClaim := { program := "ytdnaeebehkplpaa", sum := "128e114fc0bc5f97abbff06829e3fa35e1b58fd4c496cedf405aaa3cd74f3583", func := "folkmoot/folkmootlaw01.WheelShift", spec := "wheelShift", apart := false }
def WheelShiftSaid : Prop := wheelShiftRow.holds Try.pinned (OpenSpec.ofChange wheelShiftSpec)

/-- ITS FALSE NEIGHBOUR: 'it returns false'. Refute it at one input. -/
def wheelShiftWrong : ChangeSpec := { name := "wheelShift", fn := fun _ => fun
  | [d1, d2, d3] => { results := [.lit (.bool false)], args := [d1, d2, d3] }
  | _ => none }
def WheelShiftWrongFalsely : Prop := wheelShiftRow.holds Try.pinned (OpenSpec.ofChange wheelShiftWrong)

/-- 'folkmootlaw01.WheelAgain': WHATEVER THE INPUT: true; the input reads as it did. -/
def wheelAgainSpec : ChangeSpec := { name := "wheelAgain", fn := fun _ => fun
  | [d1, d2] => { results := [.lit (.bool true)], args := [d1, d2] }
  | _ => none }
def wheelAgainRow : OpenClaim := { program := "ytdnaeebehkplpaa", sum := "128e114fc0bc5f97abbff06829e3fa35e1b58fd4c496cedf405aaa3cd74f3583", func := "folkmoot/folkmootlaw01.WheelAgain", spec := "wheelAgain", apart := false }
def WheelAgainSaid : Prop := wheelAgainRow.holds Try.pinned (OpenSpec.ofChange wheelAgainSpec)

/-- ITS FALSE NEIGHBOUR: 'it returns false'. Refute it at one input. -/
def wheelAgainWrong : ChangeSpec := { name := "wheelAgain", fn := fun _ => fun
  | [d1, d2] => { results := [.lit (.bool false)], args := [d1, d2] }
  | _ => none }
def WheelAgainWrongFalsely : Prop := wheelAgainRow.holds Try.pinned (OpenSpec.ofChange wheelAgainWrong)

/-- 'folkmootlaw01.WheelPlays': WHATEVER THE INPUT: true; the input reads as it did. -/
def wheelPlaysSpec : ChangeSpec := { name := "wheelPlays", fn := fun _ => fun
  | [d1, d2] => { results := [.lit (.bool true)], args := [d1, d2] }
  | _ => none }
def wheelPlaysRow : OpenClaim := { program := "ytdnaeebehkplpaa", sum := "128e114fc0bc5f97abbff06829e3fa35e1b58fd4c496cedf405aaa3cd74f3583", func := "folkmoot/folkmootlaw01.WheelPlays", spec := "wheelPlays", apart := false }
def WheelPlaysSaid : Prop := wheelPlaysRow.holds Try.pinned (OpenSpec.ofChange wheelPlaysSpec)

/-- ITS FALSE NEIGHBOUR: 'it returns false'. Refute it at one input. -/
def wheelPlaysWrong : ChangeSpec := { name := "wheelPlays", fn := fun _ => fun
  | [d1, d2] => { results := [.lit (.bool false)], args := [d1, d2] }
  | _ => none }
def WheelPlaysWrongFalsely : Prop := wheelPlaysRow.holds Try.pinned (OpenSpec.ofChange wheelPlaysWrong)

/-- 'folkmootlaw01.WheelErrs': WHATEVER THE INPUT: true; the input reads as it did. -/
def wheelErrsSpec : ChangeSpec := { name := "wheelErrs", fn := fun _ => fun
  | [d1, d2] => { results := [.lit (.bool true)], args := [d1, d2] }
  | _ => none }
def wheelErrsRow : OpenClaim := { program := "ytdnaeebehkplpaa", sum := "128e114fc0bc5f97abbff06829e3fa35e1b58fd4c496cedf405aaa3cd74f3583", func := "folkmoot/folkmootlaw01.WheelErrs", spec := "wheelErrs", apart := false }
def WheelErrsSaid : Prop := wheelErrsRow.holds Try.pinned (OpenSpec.ofChange wheelErrsSpec)

/-- ITS FALSE NEIGHBOUR: 'it returns false'. Refute it at one input. -/
def wheelErrsWrong : ChangeSpec := { name := "wheelErrs", fn := fun _ => fun
  | [d1, d2] => { results := [.lit (.bool false)], args := [d1, d2] }
  | _ => none }
def WheelErrsWrongFalsely : Prop := wheelErrsRow.holds Try.pinned (OpenSpec.ofChange wheelErrsWrong)

/- THE SECOND FORM. 'bulk': how many values and letters a reading holds, each counted each time it is reached (what is shared counts as often as it is met; a slice's spare places count too). A statement '..UptoSaid' is the law's where the arguments, and the package variables that the reading takes, are together of bulk at most 1048576: NARROWER than '..Said'. Prove '..Said' where nothing that the law and all that it calls make is longer than what came in: it says more and counts as full. Else prove '..UptoSaid'. A law counts once. -/
mutual
def uptoBulk {H : Type} : DataW H → Nat
  | .lit (.string bytes) => bytes.length + 1
  | .lit _ => 1
  | .nil => 1
  | .ptr d => uptoBulk d + 1
  | .slice elems spare => uptoBulkAll elems + uptoBulkAll spare + 1
  | .agg parts => uptoBulkAll parts + 1
  | .iface _ d => uptoBulk d + 1
  | .map entries => uptoBulkEntries entries + 1
  | .held _ => 1
def uptoBulkAll {H : Type} : List (DataW H) → Nat
  | [] => 0
  | d :: r => uptoBulk d + uptoBulkAll r
def uptoBulkEntries {H : Type} : List (Lit × DataW H) → Nat
  | [] => 0
  | x :: r => uptoBulkEntry x + uptoBulkEntries r
def uptoBulkEntry {H : Type} : Lit × DataW H → Nat
  | (.string bytes, d) => bytes.length + uptoBulk d + 1
  | (_, d) => uptoBulk d + 1
 end
def uptoSmall : (H : Type) → List (DataW H) → Bool := fun _ ds => decide (uptoBulkAll ds ≤ 1048576)
def OpenSpec.upto (s : _root_.Go.ChangeSpec) : _root_.Go.OpenSpec := { _root_.Go.OpenSpec.ofChange s with cond := some uptoSmall }

/-- 'folkmootlaw01.WheelOrder', WHERE WHAT IT READS IS OF BULK AT MOST 1048576: true; the input reads as it did. -/
def wheelOrderUptoRow : OpenClaim := { program := "ytdnaeebehkplpaa", sum := "128e114fc0bc5f97abbff06829e3fa35e1b58fd4c496cedf405aaa3cd74f3583", func := "folkmoot/folkmootlaw01.WheelOrder", spec := "wheelOrder", apart := false, narrowed := true }
def WheelOrderUptoSaid : Prop := wheelOrderUptoRow.holds Try.pinned (OpenSpec.upto wheelOrderSpec)

/-- 'folkmootlaw01.WheelFar', WHERE WHAT IT READS IS OF BULK AT MOST 1048576: true; the input reads as it did. -/
def wheelFarUptoRow : OpenClaim := { program := "ytdnaeebehkplpaa", sum := "128e114fc0bc5f97abbff06829e3fa35e1b58fd4c496cedf405aaa3cd74f3583", func := "folkmoot/folkmootlaw01.WheelFar", spec := "wheelFar", apart := false, narrowed := true }
def WheelFarUptoSaid : Prop := wheelFarUptoRow.holds Try.pinned (OpenSpec.upto wheelFarSpec)

/-- 'folkmootlaw01.WheelCancels', WHERE WHAT IT READS IS OF BULK AT MOST 1048576: true; the input reads as it did. -/
def wheelCancelsUptoRow : OpenClaim := { program := "ytdnaeebehkplpaa", sum := "128e114fc0bc5f97abbff06829e3fa35e1b58fd4c496cedf405aaa3cd74f3583", func := "folkmoot/folkmootlaw01.WheelCancels", spec := "wheelCancels", apart := false, narrowed := true }
def WheelCancelsUptoSaid : Prop := wheelCancelsUptoRow.holds Try.pinned (OpenSpec.upto wheelCancelsSpec)

/-- 'folkmootlaw01.WheelShift', WHERE WHAT IT READS IS OF BULK AT MOST 1048576: true; the input reads as it did. -/
def wheelShiftUptoRow : OpenClaim := { program := "ytdnaeebehkplpaa", sum := "128e114fc0bc5f97abbff06829e3fa35e1b58fd4c496cedf405aaa3cd74f3583", func := "folkmoot/folkmootlaw01.WheelShift", spec := "wheelShift", apart := false, narrowed := true }
def WheelShiftUptoSaid : Prop := wheelShiftUptoRow.holds Try.pinned (OpenSpec.upto wheelShiftSpec)

/-- 'folkmootlaw01.WheelAgain', WHERE WHAT IT READS IS OF BULK AT MOST 1048576: true; the input reads as it did. -/
def wheelAgainUptoRow : OpenClaim := { program := "ytdnaeebehkplpaa", sum := "128e114fc0bc5f97abbff06829e3fa35e1b58fd4c496cedf405aaa3cd74f3583", func := "folkmoot/folkmootlaw01.WheelAgain", spec := "wheelAgain", apart := false, narrowed := true }
def WheelAgainUptoSaid : Prop := wheelAgainUptoRow.holds Try.pinned (OpenSpec.upto wheelAgainSpec)

/-- 'folkmootlaw01.WheelPlays', WHERE WHAT IT READS IS OF BULK AT MOST 1048576: true; the input reads as it did. -/
def wheelPlaysUptoRow : OpenClaim := { program := "ytdnaeebehkplpaa", sum := "128e114fc0bc5f97abbff06829e3fa35e1b58fd4c496cedf405aaa3cd74f3583", func := "folkmoot/folkmootlaw01.WheelPlays", spec := "wheelPlays", apart := false, narrowed := true }
def WheelPlaysUptoSaid : Prop := wheelPlaysUptoRow.holds Try.pinned (OpenSpec.upto wheelPlaysSpec)

/-- 'folkmootlaw01.WheelErrs', WHERE WHAT IT READS IS OF BULK AT MOST 1048576: true; the input reads as it did. -/
def wheelErrsUptoRow : OpenClaim := { program := "ytdnaeebehkplpaa", sum := "128e114fc0bc5f97abbff06829e3fa35e1b58fd4c496cedf405aaa3cd74f3583", func := "folkmoot/folkmootlaw01.WheelErrs", spec := "wheelErrs", apart := false, narrowed := true }
def WheelErrsUptoSaid : Prop := wheelErrsUptoRow.holds Try.pinned (OpenSpec.upto wheelErrsSpec)

end Rows
end Go.Proofs.Ytdnaeebehkplpaa
