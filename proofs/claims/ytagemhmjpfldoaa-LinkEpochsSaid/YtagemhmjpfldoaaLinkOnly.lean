/- One end alone has put: then a packet goes over, and one thing is taken. -/
import Derived.Test.YtagemhmjpfldoaaLinkAct0F
import Derived.Test.YtagemhmjpfldoaaLinkActAll
import Derived.Test.YtagemhmjpfldoaaLinkRight
namespace Go.Proofs.Ytagemhmjpfldoaa
open Go.RowKit
set_option linter.unusedVariables false
set_option linter.unusedSimpArgs false

def St.only (l : List Value) : St := { St.zero with pA := l, loA := l }
theorem only_put (l : List Value) (m : Nat) (x : Value) : (St.only l).putA m x = if l.length < m then St.only (l ++ [x]) else St.only l := by
  unfold St.putA St.only
  rfl
theorem only_sent (l : List Value) (m win : Nat) : (match ((St.only l).sendA win).tB[(((0 : Int) % 18446744073709551616) % ((St.only l).sendA win).tB.length).toNat]? with | some p => ((St.only l).sendA win).inB m p | none => (St.only l).sendA win) = ((St.only l).sendA win).inB m ((St.only l).outA win) := by
  simp [St.sendA, St.only, St.zero]
theorem only_end (l : List Value) (m win : Nat) (hm : 1 ≤ m) (hw : 1 ≤ win) : (((St.only l).sendA win).inB m ((St.only l).outA win)).takeB.pA = l ∧ (l.length = 0 → (((St.only l).sendA win).inB m ((St.only l).outA win)).takeB.gB.length = 0) ∧ (¬ l.length = 0 → (((St.only l).sendA win).inB m ((St.only l).outA win)).takeB.gB.length = 1) := by
  have hli : (((St.only l).sendA win).inB m ((St.only l).outA win)).liB.length = min (min l.length win) m := by
    simp [St.inB, St.sendA, St.only, St.zero, St.outA, kin]; omega
  have hg : (((St.only l).sendA win).inB m ((St.only l).outA win)).gB = [] := rfl
  have hp : (((St.only l).sendA win).inB m ((St.only l).outA win)).pA = l := rfl
  unfold St.takeB
  split
  · rename_i h
    rw [h] at hli
    simp at hli
    refine ⟨hp, fun _ => by rw [hg]; rfl, fun hn => by omega⟩
  · rename_i h
    rw [h] at hli
    simp at hli
    refine ⟨hp, fun h0 => by omega, fun hn => by simp [hg]⟩
theorem only_put' (l : List Value) (m : Nat) (x : Value) : ∃ l', (St.only l).putA m x = St.only l' ∧ l'.length ≤ l.length + 1 := by
  rw [only_put]
  split
  · exact ⟨_, rfl, by simp⟩
  · exact ⟨_, rfl, by omega⟩
/-- What is of class 11 stands. -/
theorem Frame.stays {T T' : Nat → Nat} {w0 w w' : World} (h : Frame T w T' w') (k1 : Kept [] w0 w) (k2 : Kept [] w0 w') : ∃ S, Kept S w w' ∧ ∀ k, T k = 11 → k ∉ S :=
  ⟨(List.range w.heap.size).filter (fun k => !(T k == 11)), ⟨k2.os.trans k1.os.symm, k2.tape.trans k1.tape.symm, k2.output.trans k1.output.symm, h.1, fun k hk hn => (h.2 k hk).2 (by
    have : ¬ (k < w.heap.size ∧ ¬ T k = 11) := by simpa using hn
    omega)⟩, fun k hk hm => by simp [hk] at hm⟩
end Go.Proofs.Ytagemhmjpfldoaa
