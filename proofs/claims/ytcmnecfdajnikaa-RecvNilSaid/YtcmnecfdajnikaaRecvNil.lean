/- RecvNil answers true: the walk. -/
import Derived.Test.YtcmnecfdajnikaaRecvAwake
namespace Go.Proofs.Ytcmnecfdajnikaa
namespace RecvNil
open Go.RowKit
set_option linter.unusedVariables false
set_option linter.unusedSimpArgs false

set_option maxHeartbeats 1000000 in
theorem walk (w : World) (n : Int) (hn : 0 ≤ n ∧ n ≤ 18446744073709551615) (a : Option Addr) (len cap : Nat) (xs : List Value) (hs : Sl w (.slice a len cap) xs) (ho : ∀ x ∈ xs, ∃ s : ByteArray, x = .string s) :
    Calls Try.prog 7 #[.int .u64 n, .slice a len cap] w fun e w' => e = .returned (.bool true) ∧ Kept [] w w' := by
  clear hn hs ho
  go_enter Try.func7, Try.ntmps7
  go_wp2_with fail
  refine (CSt.offer_nil n a len cap w).mono ?_
  rintro e w1 ⟨rfl, rfl⟩
  go_wp2_with fail
  refine (CSt.take_nil w).mono ?_
  rintro e w1 ⟨rfl, rfl⟩
  go_wp2_with fail
  refine (awake_true w).mono ?_
  rintro e w1 ⟨rfl, hK⟩
  go_wp2_with fail
  refine (CSt.next_nil w1).mono ?_
  rintro e w2 ⟨rfl, rfl⟩
  go_wp2_with fail
  refine (CSt.len_nil w1).mono ?_
  rintro e w2 ⟨rfl, rfl⟩
  go_wp2_with fail
  refine (CSt.room_nil w1).mono ?_
  rintro e w2 ⟨rfl, rfl⟩
  go_wp2_with fail
  go_ret
  exact ⟨rfl, hK⟩
end RecvNil
end Go.Proofs.Ytcmnecfdajnikaa
