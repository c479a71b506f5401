/- same(a, b) on lists of numbers: true where they read alike. -/
import Derived.Test.YtdnaeebehkplpaaOwn
namespace Go.Proofs.Ytdnaeebehkplpaa
open Go.RowKit
set_option linter.unusedVariables false
set_option linter.unusedSimpArgs false

set_option maxHeartbeats 400000 in
theorem same_true (a1 a2 : Option Addr) (n1 n2 c1 c2 : Nat) (xs : List Value) (w : World) (h1 : Sl w (.slice a1 n1 c1) xs) (h2 : Sl w (.slice a2 n2 c2) xs) (ho : ∀ x ∈ xs, ∃ n : Int, x = .int .i64 n) :
    Calls Try.prog 16 #[.slice a1 n1 c1, .slice a2 n2 c2] w fun e w' => e = .returned (.bool true) ∧ ∃ k, w' = w.drewN k := by
  obtain ⟨e1, l1, m1⟩ := h1.len
  obtain ⟨e2, l2, m2⟩ := h2.len
  subst e1
  subst e2
  unfold maxLen at m1 m2
  go_enter Try.func16, Try.ntmps16
  go_wp2
  go_loopw [5] (fun iv wr => ∃ i kd : Nat, i ≤ xs.length ∧ iv = .int .i64 (i : Int) ∧ wr = w.drewN kd) (fun iv _ => xs.length - (intOf iv).toNat)
  case atStart => exact ⟨0, 0, by omega, rfl, rfl⟩
  case round =>
    obtain ⟨i, kd, hi, rfl, rfl⟩ := hrel
    by_cases hlt : i < xs.length
    · obtain ⟨g, off, rfl, hc⟩ := h1.cell hlt
      obtain ⟨g2, off2, rfl, hc2⟩ := h2.cell hlt
      obtain ⟨s, hx⟩ := ho _ (List.getElem_mem hlt)
      rw [hx] at hc hc2
      clear hx
      go_wp2
      go_quiet (fail)
      go_wp2
      go_roundw
      case rel => exact ⟨i + 1, _, by omega, by go_num, rfl⟩
      case measure => simp [intOf]; omega
    · go_wp2
      go_ret
      exact ⟨rfl, _, rfl⟩

end Go.Proofs.Ytdnaeebehkplpaa
