/- WheelErrs answers true: the walk. -/
import Derived.Test.YtdnaeebehkplpaaWheelAwake
namespace Go.Proofs.Ytdnaeebehkplpaa
open Go.RowKit
set_option linter.unusedVariables false
set_option linter.unusedSimpArgs false
theorem wf_int {a : Int} (h1 : -9223372036854775808 ≤ a) (h2 : a ≤ 9223372036854775807) : (Lit.int .i64 a).wf = true := by simp [Lit.wf, IntKind.min, IntKind.max, IntKind.signed, IntKind.bits]; omega
namespace WheelErrs
set_option maxRecDepth 100000 in
set_option maxHeartbeats 1000000 in
theorem walk (w : World) (id : Int) (hid0 : -9223372036854775808 ≤ id ∧ id ≤ 9223372036854775807) (k : Int) (hk : 0 ≤ k ∧ k ≤ 18446744073709551615) :
    Calls Try.prog 9 #[.int .i64 id, .int .u64 k] w fun e w' => e = .returned (.bool true) ∧ Kept [] w w' := by
  obtain ⟨i1, i2⟩ := hid0
  obtain ⟨k1, k2⟩ := hk
  have HW := hid (wf_int i1 i2)
  go_enter Try.func9, Try.ntmps9
  go_wp2_with fail
  refine (awake_true w).mono ?_
  rintro e w1 ⟨rfl, hK1⟩
  go_wp2_with fail
  refine (due_nil id w1).mono ?_
  rintro e w2 ⟨rfl, rfl⟩
  go_wp2_with fail
  refine (tick_nil w1).mono ?_
  rintro e w2 ⟨rfl, rfl⟩
  go_wp2_with fail
  refine (arm_nil id k w1).mono ?_
  rintro e w2 ⟨rfl, rfl⟩
  go_wp2_with fail
  refine (cancel_nil id w1).mono ?_
  rintro e w2 ⟨rfl, rfl⟩
  go_wp2_with fail
  refine (now_nil w1).mono ?_
  rintro e w2 ⟨rfl, rfl⟩
  go_wp2_with fail
  refine (len_nil w1).mono ?_
  rintro e w2 ⟨rfl, rfl⟩
  go_wp2_with fail
  refine (wr_new 1152921504606846976 w1 (by omega)).mono ?_
  rintro e w2 ⟨b, B, rfl, hR, hK2, hB⟩
  have hK := hK1.trans hK2
  clear hK1 hK2 hB
  go_wp2_with fail
  refine (wr_tick_last hR (by omega)).mono ?_
  rintro e w3 ⟨rfl, rfl⟩
  go_wp2_with fail
  refine (wr_arm_bad hR id k k1 k2 (by omega)).mono ?_
  rintro e w3 ⟨rfl, rfl⟩
  go_wp2_with fail
  refine (wr_cancel_none hR id HW.out (by simp)).mono ?_
  rintro e w3 ⟨rfl, rfl⟩
  go_wp2_with fail
  refine (wr_now hR).mono ?_
  rintro e w3 ⟨rfl, rfl⟩
  go_wp2
  go_ret
  exact ⟨rfl, hK⟩
end WheelErrs
end Go.Proofs.Ytdnaeebehkplpaa
