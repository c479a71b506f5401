/- The beat's small example answers true; a nil beat; New of what is no configuration. -/
import Derived.Test.YtkemkoiknoefdaaBeatTick
namespace Go.Proofs.Ytkemkoiknoefdaa
open Go.RowKit
set_option linter.unusedVariables false
set_option linter.unusedSimpArgs false

theorem Step.law {w0 w w' : World} {B B' : Nat → Prop} (h : Step w w' B B') (hk : Kept [] w0 w) (hB : ∀ k, B k → w0.heap.size ≤ k) : Kept [] w0 w' ∧ ∀ k, B' k → w0.heap.size ≤ k := h.base hk hB
set_option maxRecDepth 100000 in
set_option maxHeartbeats 1000000 in
theorem new_form (c0 c1 c2 c3 c4 c5 : Int) (hf : ¬ okForm c0 c1 c2 c3 c4 c5) (me : Int) (w : World) :
    Calls Try.prog 9 #[cfg c0 c1 c2 c3 c4 c5, .int .i64 me] w fun r w' => r = .returned (.tuple #[.pointer none, .int .i64 1]) ∧ Kept [] w w' := by
  unfold cfg
  go_enter Try.func9, Try.ntmps9
  go_wp2_with fail
  refine (form_bad c0 c1 c2 c3 c4 c5 hf _).mono ?_
  rintro e w1 ⟨rfl, hk1⟩
  go_wp2
  go_ret2
  exact ⟨rfl, (kept_new _).trans hk1⟩
set_option maxRecDepth 100000 in
set_option maxHeartbeats 1000000 in
theorem new_me (c0 c1 c2 c3 c4 c5 : Int) (hf : okForm c0 c1 c2 c3 c4 c5) (me : Int) (hm : me < 0 ∨ c0 ≤ me) (w : World) :
    Calls Try.prog 9 #[cfg c0 c1 c2 c3 c4 c5, .int .i64 me] w fun r w' => r = .returned (.tuple #[.pointer none, .int .i64 1]) ∧ Kept [] w w' := by
  have hbx := blk_alloc_new w (cfgO c0 c1 c2 c3 c4 c5)
  unfold cfg
  by_cases h1 : me < 0
  · clear hbx
    go_enter Try.func9, Try.ntmps9
    go_wp2_with fail
    refine (form_ok c0 c1 c2 c3 c4 c5 hf _).mono ?_
    rintro e w1 ⟨rfl, hk1⟩
    go_wp2
    go_ret2
    exact ⟨rfl, (kept_new _).trans hk1⟩
  · have h2 : c0 ≤ me := by omega
    clear hm
    go_enter Try.func9, Try.ntmps9
    go_wp2_with fail
    refine (form_ok c0 c1 c2 c3 c4 c5 hf _).mono ?_
    rintro e w1 ⟨rfl, hk1⟩
    have d0 : w1.cell? ⟨w.heap.size, 0, none⟩ = some (.int .i64 c0) := (cell_of (hk1.blk hbx (by simp))).trans rfl
    go_wp2
    go_ret2
    exact ⟨rfl, (kept_new _).trans hk1⟩
set_option maxRecDepth 100000 in
set_option maxHeartbeats 1000000 in
theorem awake_true (w : World) : Calls Try.prog 8 #[] w fun e w' => e = .returned (.bool true) ∧ Kept [] w w' := by
  go_enter Try.func8, Try.ntmps8
  go_wp2_with fail
  refine (beat_new 2 0 1 3 1 1 1 (by unfold okForm; omega) (by omega) w).mono ?_
  rintro e w1 ⟨bb, C, e1, rfl, hT, hK, hC⟩
  go_wp2_with fail
  refine (heard_ok hT 1 (by omega) (by omega) (by omega) (by omega)).mono ?_
  rintro e w2 ⟨rfl, C2, e2, hT2, hS⟩
  obtain ⟨hK2, hC2⟩ := hS.base hK hC
  clear hT hK hC hS
  go_wp2_with fail
  refine (beat_tick hT2 (by omega) (by omega)).mono ?_
  rintro e w3 ⟨rfl, C3, e3, n3, hn3, hT3, hS⟩
  obtain ⟨hK3, hC3⟩ := hS.base hK2 hC2
  clear hT2 hK2 hC2 hS
  rw [if_pos rfl] at hT3
  go_wp2_with fail
  refine (beat_tick hT3 (by omega) (by omega)).mono ?_
  rintro e w4 ⟨rfl, C4, e4, n4, hn4, hT4, hS⟩
  obtain ⟨hK4, hC4⟩ := hS.base hK3 hC3
  clear hT3 hK3 hC3 hS
  rw [if_pos rfl] at hT4
  have he4 : e4 = 3 := set_eq hT4.nums.2.2.2.2.2.2.2 (by omega) (fun j hj => by rw [hT4.bits j hj]; revert j; decide)
  subst he4
  go_wp2_with fail
  refine (est_any hT4).mono ?_
  rintro e w5 ⟨rfl, rfl⟩
  go_wp2_with fail
  refine (beat_tick hT4 (by omega) (by omega)).mono ?_
  rintro e w5 ⟨rfl, C5, e5, n5, hn5, hT5, hS⟩
  obtain ⟨hK5, hC5⟩ := hS.base hK4 hC4
  clear hT4 hK4 hC4 hS
  have he5 : e5 = 1 := set_eq hT5.nums.2.2.2.2.2.2.2 (by omega) (fun j hj => by rw [hT5.bits j hj]; revert j; decide)
  subst he5
  go_wp2_with fail
  refine (est_any hT5).mono ?_
  rintro e w6 ⟨rfl, rfl⟩
  go_wp2
  go_ret
  exact ⟨rfl, hK5⟩
namespace BeatNil
set_option maxHeartbeats 1000000 in
theorem walk (w : World) (i : Int) (hi : -9223372036854775808 ≤ i ∧ i ≤ 9223372036854775807) :
    Calls Try.prog 6 #[.int .i64 i] w fun e w' => e = .returned (.bool true) ∧ Kept [] w w' := by
  go_enter Try.func6, Try.ntmps6
  go_wp2_with fail
  refine (awake_true w).mono ?_
  rintro e w1 ⟨rfl, hK1⟩
  go_wp2_with fail
  refine (tickb_nil w1).mono ?_
  rintro e w2 ⟨rfl, rfl⟩
  go_wp2_with fail
  refine (heard_nil i w1).mono ?_
  rintro e w2 ⟨rfl, rfl⟩
  go_wp2_with fail
  refine (est_nil w1).mono ?_
  rintro e w2 ⟨rfl, rfl⟩
  go_wp2
  go_ret
  exact ⟨rfl, hK1⟩
end BeatNil
end Go.Proofs.Ytkemkoiknoefdaa
