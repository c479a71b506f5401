/- The wheel's smaller functions: Now, Len, Cancel; a nil wheel; Arm of what is no time. -/
import Derived.Test.YtkemkoiknoefdaaWheelBase
namespace Go.Proofs.Ytkemkoiknoefdaa
open Go.RowKit Go.Maps
set_option linter.unusedVariables false
set_option linter.unusedSimpArgs false

theorem Wh.mapped {w w' : World} {b mb now n cnt cnt' sz sz' : Nat} {d d' : Int → Nat} {vs : Nat → Value} {sl : Nat → List Tm} (h : Wh w b mb now n cnt d sz vs sl) (hk : Kept [mb] w w') (hm : Mp w' mb cnt' d' sz') : Wh w' b mb now n cnt' d' sz' vs sl := by
  obtain ⟨cs, h0, hrest⟩ := h.blk
  exact ⟨⟨cs, hk.blk h0 (by simp [h.bm]), hrest⟩, hm, fun i hi => (h.own i hi).kept hk (fun k hk' hm => by simp at hm; subst hm; exact (h.nb i hi).2 hk'), h.bm, h.nb, h.ap⟩

theorem arm_nil (id k : Int) (w : World) : Calls Try.prog 17 #[.pointer none, .int .i64 id, .int .u64 k] w fun e w' => e = .returned (.int .i64 6) ∧ w = w' := by
  go_enter Try.func17, Try.ntmps17
  go_wp2
  go_ret
  exact ⟨rfl, rfl⟩
theorem arm_bad {w : World} {b mb now n cnt sz : Nat} {d : Int → Nat} {vs : Nat → Value} {sl : Nat → List Tm} (h : Wh w b mb now n cnt d sz vs sl) (hnow : now ≤ 1152921504606846976) (id k : Int) (hk0 : 0 ≤ k) (hk : k ≤ 18446744073709551615)
    (hb : k < 1 ∨ 1152921504606846976 < (now : Int) + k) :
    Calls Try.prog 17 #[.pointer (some ⟨b, 0, none⟩), .int .i64 id, .int .u64 k] w fun e w' => e = .returned (.int .i64 1) ∧ w = w' := by
  have c0 := h.c0
  have hn0 : (now : Int) ≤ 1152921504606846976 := by omega
  clear h
  by_cases h1 : k < 1
  · go_enter Try.func17, Try.ntmps17
    go_wp2
    go_ret
    exact ⟨rfl, rfl⟩
  · have hb2 : 1152921504606846976 < (now : Int) + k := by omega
    by_cases h2 : 1152921504606846976 < k
    · go_enter Try.func17, Try.ntmps17
      go_wp2
      go_ret
      exact ⟨rfl, rfl⟩
    · go_enter Try.func17, Try.ntmps17
      go_wp2
      go_ret
      exact ⟨rfl, rfl⟩
theorem tick_nil (w : World) : Calls Try.prog 21 #[.pointer none] w fun e w' => e = .returned (.tuple #[.slice none 0 0, .int .i64 6]) ∧ w = w' := by
  go_enter Try.func21, Try.ntmps21
  go_wp2
  go_ret2
  exact ⟨rfl, rfl⟩
theorem tick_last {w : World} {b mb now n cnt sz : Nat} {d : Int → Nat} {vs : Nat → Value} {sl : Nat → List Tm} (h : Wh w b mb now n cnt d sz vs sl) (hn : 1152921504606846976 ≤ now) (hn2 : now ≤ 18446744073709551615) :
    Calls Try.prog 21 #[.pointer (some ⟨b, 0, none⟩)] w fun e w' => e = .returned (.tuple #[.slice none 0 0, .int .i64 1]) ∧ w = w' := by
  have c0 := h.c0
  have hni : (1152921504606846976 : Int) ≤ (now : Int) := by omega
  clear h
  go_enter Try.func21, Try.ntmps21
  go_wp2
  go_ret2
  exact ⟨rfl, rfl⟩
end Go.Proofs.Ytkemkoiknoefdaa
