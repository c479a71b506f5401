/- In, where the packet's epoch is known to be the end's own: gaps, and acks of what was not sent. -/
import Derived.Test.YtagemhmjpfldoaaLinkRight
namespace Go.Proofs.Ytagemhmjpfldoaa
open Go.RowKit
set_option linter.unusedVariables false
theorem LIn.in_gap_at {w : World} {E : Ends} {m win acked next : Nat} {lo li : List Value} (h : LIn.Link w E m win acked lo next li) (N P : Int) (hN : N = E.N) (hP : P = E.P) (base : Int) (ack : Nat) (hack : ack ≤ acked + min lo.length win) (hba : acked ≤ 4611686018427387904) (hb : (next : Int) < base)
    (a : Option Addr) (n cap : Nat) :
    Calls Try.prog 14 #[.pointer (some ⟨E.k, 0, none⟩), .agg #[.int .u64 N, .int .i64 P, .int .u64 base, .slice a n cap, .int .u64 (ack : Int)]] w fun e w' => e = .returned (.tuple #[.int .i64 0, .int .i64 1]) ∧ LIn.Link w' E m win (max acked ack) (lo.drop (ack - acked)) next li ∧ Kept E.all w w' := by
  subst hN; subst hP
  exact LIn.in_gap h base ack hack hba hb a n cap
theorem LIn.in_bad_at {w : World} {E : Ends} {m win acked next : Nat} {lo li : List Value} (h : LIn.Link w E m win acked lo next li) (N P : Int) (hN : N = E.N) (hP : P = E.P) (base ack : Int) (hack : (acked : Int) ≤ ack) (hba : ack ≤ 18446744073709551615) (hb : (min lo.length win : Nat) < ack - (acked : Int))
    (a : Option Addr) (n cap : Nat) :
    Calls Try.prog 14 #[.pointer (some ⟨E.k, 0, none⟩), .agg #[.int .u64 N, .int .i64 P, .int .u64 base, .slice a n cap, .int .u64 ack]] w fun e w' => e = .returned (.tuple #[.int .i64 0, .int .i64 1]) ∧ Kept [] w w' := by
  subst hN; subst hP
  exact LIn.in_bad h base ack hack hba hb a n cap
end Go.Proofs.Ytagemhmjpfldoaa
