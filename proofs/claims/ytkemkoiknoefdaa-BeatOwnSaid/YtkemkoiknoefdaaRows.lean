/-
  No cell of these rows narrows 'for every input' (looked for: loops, veiled, ifaces, maps, wideKeys, modest, calm, conditions, laid).
  DERIVED. THE GIVEN ROWS OF THIS SEAT. 5 by the template 'for every input the law returns true; each argument reads behind the call as it read before'; 0 by the template 'total and deterministic' (their statements: YtkemkoiknoefdaaTotals.lean).
  GIVEN WITH THE SEED: the statements are not yours to turn. If you find one false, say at which input.
  Laid BY PROGRAM, IN A SANDBOX (cutbox-rows.mjs): the forced cells as the released guide's own fill.sh prints them over the translation 2eb3d918e5f01aee… (all of the seat's roots in one cut). By AI agents, Wed Nov 11 2026. No macro, syntax, notation, axiom, sorry.
-/
import Derived.Test.YtkemkoiknoefdaaChecked
import GoSem.Claim
import GoSem.ClaimJoined
import GoSem.ClaimMapViews
import Derived.JoinedTies
import Derived.KernelRfl
namespace Go.Proofs.Ytkemkoiknoefdaa
/- THE CELL 'sum', in the pinned program and in every row, IS THE sha256 OF THE DUMP (.gsa) THAT YtkemkoiknoefdaaProg.lean LOADS. Nothing in Lean hashes anything: it is a label: what it is worth is what the hold of that sum in a sandbox is worth. -/
noncomputable def Try.pinned : Pinned := { name := "ytkemkoiknoefdaa", sum := "2eb3d918e5f01aeeeb78e5275aa4f798dd6bc0e79226a28cf492abbb27e9e477", checked := Try.checked }
namespace Rows
def none {H : Type} : Left H := { results := [], args := [] }

/-- 'folkmootlaw12.BeatForms': WHATEVER THE INPUT: true; the input reads as it did. -/
def beatFormsSpec : ChangeSpec := { name := "beatForms", fn := fun _ => fun
  | [d1, d2] => { results := [.lit (.bool true)], args := [d1, d2] }
  | _ => none }
def beatFormsRow : OpenClaim := { program := "ytkemkoiknoefdaa", sum := "2eb3d918e5f01aeeeb78e5275aa4f798dd6bc0e79226a28cf492abbb27e9e477", func := "folkmoot/folkmootlaw12.BeatForms", spec := "beatForms", apart := false }
def BeatFormsSaid : Prop := beatFormsRow.holds Try.pinned (OpenSpec.ofChange beatFormsSpec)

/-- ITS FALSE NEIGHBOUR: 'it returns false'. Refute it at one input. -/
def beatFormsWrong : ChangeSpec := { name := "beatForms", fn := fun _ => fun
  | [d1, d2] => { results := [.lit (.bool false)], args := [d1, d2] }
  | _ => none }
def BeatFormsWrongFalsely : Prop := beatFormsRow.holds Try.pinned (OpenSpec.ofChange beatFormsWrong)

/-- 'folkmootlaw12.BeatPlays': WHATEVER THE INPUT: true; the input reads as it did. -/
def beatPlaysSpec : ChangeSpec := { name := "beatPlays", fn := fun _ => fun
  | [d1, d2, d3, d4, d5] => { results := [.lit (.bool true)], args := [d1, d2, d3, d4, d5] }
  | _ => none }
def beatPlaysRow : OpenClaim := { program := "ytkemkoiknoefdaa", sum := "2eb3d918e5f01aeeeb78e5275aa4f798dd6bc0e79226a28cf492abbb27e9e477", func := "folkmoot/folkmootlaw12.BeatPlays", spec := "beatPlays", apart := false }
def BeatPlaysSaid : Prop := beatPlaysRow.holds Try.pinned (OpenSpec.ofChange beatPlaysSpec)

/-- ITS FALSE NEIGHBOUR: 'it returns false'. Refute it at one input. -/
def beatPlaysWrong : ChangeSpec := { name := "beatPlays", fn := fun _ => fun
  | [d1, d2, d3, d4, d5] => { results := [.lit (.bool false)], args := [d1, d2, d3, d4, d5] }
  | _ => none }
def BeatPlaysWrongFalsely : Prop := beatPlaysRow.holds Try.pinned (OpenSpec.ofChange beatPlaysWrong)

/-- 'folkmootlaw12.BeatLast': WHATEVER THE INPUT: true; the input reads as it did. -/
def beatLastSpec : ChangeSpec := { name := "beatLast", fn := fun _ => fun
  | [d1, d2, d3, d4] => { results := [.lit (.bool true)], args := [d1, d2, d3, d4] }
  | _ => none }
def beatLastRow : OpenClaim := { program := "ytkemkoiknoefdaa", sum := "2eb3d918e5f01aeeeb78e5275aa4f798dd6bc0e79226a28cf492abbb27e9e477", func := "folkmoot/folkmootlaw12.BeatLast", spec := "beatLast", apart := false }
def BeatLastSaid : Prop := beatLastRow.holds Try.pinned (OpenSpec.ofChange beatLastSpec)

/-- ITS FALSE NEIGHBOUR: 'it returns false'. Refute it at one input. -/
def beatLastWrong : ChangeSpec := { name := "beatLast", fn := fun _ => fun
  | [d1, d2, d3, d4] => { results := [.lit (.bool false)], args := [d1, d2, d3, d4] }
  | _ => none }
def BeatLastWrongFalsely : Prop := beatLastRow.holds Try.pinned (OpenSpec.ofChange beatLastWrong)

/-- 'folkmootlaw12.BeatNil': WHATEVER THE INPUT: true; the input reads as it did. -/
def beatNilSpec : ChangeSpec := { name := "beatNil", fn := fun _ => fun
  | [d] => { results := [.lit (.bool true)], args := [d] }
  | _ => none }
def beatNilRow : OpenClaim := { program := "ytkemkoiknoefdaa", sum := "2eb3d918e5f01aeeeb78e5275aa4f798dd6bc0e79226a28cf492abbb27e9e477", func := "folkmoot/folkmootlaw12.BeatNil", spec := "beatNil", apart := false }
def BeatNilSaid : Prop := beatNilRow.holds Try.pinned (OpenSpec.ofChange beatNilSpec)

/-- ITS FALSE NEIGHBOUR: 'it returns false'. Refute it at one input. -/
def beatNilWrong : ChangeSpec := { name := "beatNil", fn := fun _ => fun
  | [d] => { results := [.lit (.bool false)], args := [d] }
  | _ => none }
def BeatNilWrongFalsely : Prop := beatNilRow.holds Try.pinned (OpenSpec.ofChange beatNilWrong)

/-- 'folkmootlaw12.BeatOwn': WHATEVER THE INPUT: true; the input reads as it did. -/
def beatOwnSpec : ChangeSpec := { name := "beatOwn", fn := fun _ => fun
  | [d1, d2, d3, d4, d5] => { results := [.lit (.bool true)], args := [d1, d2, d3, d4, d5] }
  | _ => none }
def beatOwnRow : OpenClaim := { program := "ytkemkoiknoefdaa", sum := "2eb3d918e5f01aeeeb78e5275aa4f798dd6bc0e79226a28cf492abbb27e9e477", func := "folkmoot/folkmootlaw12.BeatOwn", spec := "beatOwn", apart := false }
def BeatOwnSaid : Prop := beatOwnRow.holds Try.pinned (OpenSpec.ofChange beatOwnSpec)

/-- ITS FALSE NEIGHBOUR: 'it returns false'. Refute it at one input. -/
def beatOwnWrong : ChangeSpec := { name := "beatOwn", fn := fun _ => fun
  | [d1, d2, d3, d4, d5] => { results := [.lit (.bool false)], args := [d1, d2, d3, d4, d5] }
  | _ => none }
def BeatOwnWrongFalsely : Prop := beatOwnRow.holds Try.pinned (OpenSpec.ofChange beatOwnWrong)

/- THE SECOND FORM. 'bulk': how many values and letters a reading holds, each counted each time it is reached (what is shared counts as often as it is met; a slice's spare places count too). A statement '..UptoSaid' is the law's where the arguments, and the package variables that the reading takes, are together of bulk at most 1048576: NARROWER than '..Said'. Prove '..Said' where nothing that the law and all that it calls make is longer than what came in: it says more and counts as full. Else prove '..UptoSaid'. A law counts once. -/
mutual
def uptoBulk {H : Type} : DataW H → Nat
  | .lit (.string bytes) => bytes.length + 1
  | .lit _ => 1
  | .nil => 1
  | .ptr d => uptoBulk d + 1
  | .slice elems spare => uptoBulkAll elems + uptoBulkAll spare + 1
  | .agg parts => uptoBulkAll parts + 1
  | .iface _ d => uptoBulk d + 1
  | .map entries => uptoBulkEntries entries + 1
  | .held _ => 1
def uptoBulkAll {H : Type} : List (DataW H) → Nat
  | [] => 0
  | d :: r => uptoBulk d + uptoBulkAll r
def uptoBulkEntries {H : Type} : List (Lit × DataW H) → Nat
  | [] => 0
  | x :: r => uptoBulkEntry x + uptoBulkEntries r
def uptoBulkEntry {H : Type} : Lit × DataW H → Nat
  | (.string bytes, d) => bytes.length + uptoBulk d + 1
  | (_, d) => uptoBulk d + 1
 end
def uptoSmall : (H : Type) → List (DataW H) → Bool := fun _ ds => decide (uptoBulkAll ds ≤ 1048576)
def OpenSpec.upto (s : _root_.Go.ChangeSpec) : _root_.Go.OpenSpec := { _root_.Go.OpenSpec.ofChange s with cond := some uptoSmall }

/-- 'folkmootlaw12.BeatForms', WHERE WHAT IT READS IS OF BULK AT MOST 1048576: true; the input reads as it did. -/
def beatFormsUptoRow : OpenClaim := { program := "ytkemkoiknoefdaa", sum := "2eb3d918e5f01aeeeb78e5275aa4f798dd6bc0e79226a28cf492abbb27e9e477", func := "folkmoot/folkmootlaw12.BeatForms", spec := "beatForms", apart := false, narrowed := true }
def BeatFormsUptoSaid : Prop := beatFormsUptoRow.holds Try.pinned (OpenSpec.upto beatFormsSpec)

/-- 'folkmootlaw12.BeatPlays', WHERE WHAT IT READS IS OF BULK AT MOST 1048576: true; the input reads as it did. -/
def beatPlaysUptoRow : OpenClaim := { program := "ytkemkoiknoefdaa", sum := "2eb3d918e5f01aeeeb78e5275aa4f798dd6bc0e79226a28cf492abbb27e9e477", func := "folkmoot/folkmootlaw12.BeatPlays", spec := "beatPlays", apart := false, narrowed := true }
def BeatPlaysUptoSaid : Prop := beatPlaysUptoRow.holds Try.pinned (OpenSpec.upto beatPlaysSpec)

/-- 'folkmootlaw12.BeatLast', WHERE WHAT IT READS IS OF BULK AT MOST 1048576: true; the input reads as it did. -/
def beatLastUptoRow : OpenClaim := { program := "ytkemkoiknoefdaa", sum := "2eb3d918e5f01aeeeb78e5275aa4f798dd6bc0e79226a28cf492abbb27e9e477", func := "folkmoot/folkmootlaw12.BeatLast", spec := "beatLast", apart := false, narrowed := true }
def BeatLastUptoSaid : Prop := beatLastUptoRow.holds Try.pinned (OpenSpec.upto beatLastSpec)

/-- 'folkmootlaw12.BeatNil', WHERE WHAT IT READS IS OF BULK AT MOST 1048576: true; the input reads as it did. -/
def beatNilUptoRow : OpenClaim := { program := "ytkemkoiknoefdaa", sum := "2eb3d918e5f01aeeeb78e5275aa4f798dd6bc0e79226a28cf492abbb27e9e477", func := "folkmoot/folkmootlaw12.BeatNil", spec := "beatNil", apart := false, narrowed := true }
def BeatNilUptoSaid : Prop := beatNilUptoRow.holds Try.pinned (OpenSpec.upto beatNilSpec)

/-- 'folkmootlaw12.BeatOwn', WHERE WHAT IT READS IS OF BULK AT MOST 1048576: true; the input reads as it did. -/
def beatOwnUptoRow : OpenClaim := { program := "ytkemkoiknoefdaa", sum := "2eb3d918e5f01aeeeb78e5275aa4f798dd6bc0e79226a28cf492abbb27e9e477", func := "folkmoot/folkmootlaw12.BeatOwn", spec := "beatOwn", apart := false, narrowed := true }
def BeatOwnUptoSaid : Prop := beatOwnUptoRow.holds Try.pinned (OpenSpec.upto beatOwnSpec)

end Rows
end Go.Proofs.Ytkemkoiknoefdaa
