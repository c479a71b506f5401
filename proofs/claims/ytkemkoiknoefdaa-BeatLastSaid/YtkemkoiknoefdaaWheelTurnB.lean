/- The wheel's 'turn', walked. -/
import Derived.Test.YtkemkoiknoefdaaWheelTurn
namespace Go.Proofs.Ytkemkoiknoefdaa
open Go.RowKit Go.Maps
set_option linter.unusedVariables false
set_option linter.unusedSimpArgs false

def lvl (now : Nat) (d : Int → Nat) (q p : Nat) (s : Nat → List Tm) : Nat → List Tm := if now % q = 0 then relay now d p s else s
def part (now : Nat) (d : Int → Nat) (sl : Nat → List Tm) : Nat → (Nat → List Tm)
  | 4 => lvl now d 1048576 80 sl
  | 3 => lvl now d 65536 (64 + now / 65536 % 16) (lvl now d 1048576 80 sl)
  | 2 => lvl now d 4096 (48 + now / 4096 % 16) (lvl now d 65536 (64 + now / 65536 % 16) (lvl now d 1048576 80 sl))
  | 1 => lvl now d 256 (32 + now / 256 % 16) (lvl now d 4096 (48 + now / 4096 % 16) (lvl now d 65536 (64 + now / 65536 % 16) (lvl now d 1048576 80 sl)))
  | _ => lvl now d 16 (16 + now / 16 % 16) (lvl now d 256 (32 + now / 256 % 16) (lvl now d 4096 (48 + now / 4096 % 16) (lvl now d 65536 (64 + now / 65536 % 16) (lvl now d 1048576 80 sl))))
theorem part_zero (now : Nat) (d : Int → Nat) (sl : Nat → List Tm) : part now d sl 0 = turned now d sl := rfl
/-- What stands ahead of level k: the lists are no longer than B, their timers are such. -/
structure Ok (B : Nat) (sl : Nat → List Tm) : Prop where
  len : ∀ i, i < 81 → (sl i).length ≤ B
  mem : ∀ i, i < 81 → ∀ t ∈ sl i, (Lit.int .i64 t.id).wf = true ∧ t.due ≤ 2305843009213693952
theorem Ok.lvl {B now q p : Nat} {d : Int → Nat} {s : Nat → List Tm} (h : Ok B s) (hp : p < 81) : Ok (2 * B) (lvl now d q p s) := by
  unfold Go.Proofs.Ytkemkoiknoefdaa.lvl
  split
  · exact ⟨relay_len hp h.len, relay_mem hp h.mem⟩
  · exact ⟨fun i hi => by have := h.len i hi; omega, h.mem⟩
def TurnPost (w : World) (b mb now n cnt : Nat) (d : Int → Nat) (sz : Nat) (vs : Nat → Value) (sl : Nat → List Tm) (e : Ending) (w' : World) : Prop :=
  (∃ v, e = .returned v) ∧ ∃ vs', Wh w' b mb now n cnt d sz vs' (turned now d sl) ∧ Turned w b mb vs w' vs'
end Go.Proofs.Ytkemkoiknoefdaa
