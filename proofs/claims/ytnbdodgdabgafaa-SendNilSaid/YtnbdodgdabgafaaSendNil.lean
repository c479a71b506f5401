/- SendNil answers true: the walk. -/
import Derived.Test.YtnbdodgdabgafaaSendAwake
namespace Go.Proofs.Ytnbdodgdabgafaa
namespace SendNil
open Go.RowKit
set_option linter.unusedVariables false
set_option linter.unusedSimpArgs false

set_option maxHeartbeats 1000000 in
theorem walk (w : World) (s : ByteArray) (n : Int) (hn : 0 ≤ n ∧ n ≤ 18446744073709551615) :
    Calls Try.prog 7 #[.string s, .int .u64 n] w fun e w' => e = .returned (.bool true) ∧ Kept [] w w' := by
  clear hn
  go_enter Try.func7, Try.ntmps7
  go_wp2_with fail
  refine (SSt.window_nil w).mono ?_
  rintro e w1 ⟨rfl, rfl⟩
  go_wp2_with fail
  refine (awake_true w).mono ?_
  rintro e w1 ⟨rfl, hK⟩
  go_wp2_with fail
  refine (SSt.put_nil s w1).mono ?_
  rintro e w2 ⟨rfl, rfl⟩
  go_wp2_with fail
  refine (SSt.ack_nil n w1).mono ?_
  rintro e w2 ⟨rfl, rfl⟩
  go_wp2_with fail
  refine (SSt.len_nil w1).mono ?_
  rintro e w2 ⟨rfl, rfl⟩
  go_wp2_with fail
  refine (SSt.room_nil w1).mono ?_
  rintro e w2 ⟨rfl, rfl⟩
  go_wp2_with fail
  refine (SSt.acked_nil w1).mono ?_
  rintro e w2 ⟨rfl, rfl⟩
  go_wp2_with fail
  go_ret
  exact ⟨rfl, hK⟩
end SendNil
end Go.Proofs.Ytnbdodgdabgafaa
