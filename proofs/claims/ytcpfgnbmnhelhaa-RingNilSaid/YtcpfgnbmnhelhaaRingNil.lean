/- RingNil answers true: the walk. -/
import Derived.Test.YtcpfgnbmnhelhaaAwake
namespace Go.Proofs.Ytcpfgnbmnhelhaa
namespace RingNil
open Go.RowKit
set_option linter.unusedVariables false
set_option linter.unusedSimpArgs false

set_option maxHeartbeats 1000000 in
theorem walk (w : World) (n : Int) (hn : -9223372036854775808 ≤ n ∧ n ≤ 9223372036854775807) (s : ByteArray) :
    Calls Try.prog 6 #[.int .i64 n, .string s] w fun e w' => e = .returned (.bool true) ∧ Kept [] w w' := by
  clear hn
  go_enter Try.func6, Try.ntmps6
  go_wp2_with fail
  refine (RSt.take_nil w).mono ?_
  rintro e w1 ⟨rfl, rfl⟩
  go_wp2_with fail
  refine (RSt.at_nil n w).mono ?_
  rintro e w1 ⟨rfl, rfl⟩
  go_wp2_with fail
  refine (awake_true w).mono ?_
  rintro e w1 ⟨rfl, hK⟩
  go_wp2_with fail
  refine (RSt.put_nil s w1).mono ?_
  rintro e w2 ⟨rfl, rfl⟩
  go_wp2_with fail
  refine (RSt.len_nil w1).mono ?_
  rintro e w2 ⟨rfl, rfl⟩
  go_wp2_with fail
  refine (RSt.room_nil w1).mono ?_
  rintro e w2 ⟨rfl, rfl⟩
  go_wp2_with fail
  refine (RSt.first_nil n w1).mono ?_
  rintro e w2 ⟨rfl, rfl⟩
  go_wp2_with fail
  go_ret
  exact ⟨rfl, hK⟩
end RingNil
end Go.Proofs.Ytcpfgnbmnhelhaa
