/- The ring's small example answers true and keeps what was there. -/
import Derived.Test.YtcpfgnbmnhelhaaRingSt
namespace Go.Proofs.Ytcpfgnbmnhelhaa
open Go.RowKit
set_option linter.unusedVariables false
set_option linter.unusedSimpArgs false

set_option maxHeartbeats 400000 in
theorem awake_true (w : World) : Calls Try.prog 8 #[] w fun e w' => e = .returned (.bool true) ∧ Kept [] w w' := by
  go_enter Try.func8, Try.ntmps8
  go_wp2_with fail
  refine (RSt.new_any 2 2 rfl w (by omega) (by omega)).mono ?_
  rintro e w1 ⟨b, bs, rfl, hR, hK, hb, hbs⟩
  go_wp2_with fail
  refine (RSt.put_ok hR (by decide) _).mono ?_
  rintro e w2 ⟨rfl, hR2, hK2⟩
  have hK2 := hK.join hK2 (fun i hi hlt => by simp at hi; omega)
  clear hR hK
  go_wp2_with fail
  refine (RSt.put_ok hR2 (by decide) _).mono ?_
  rintro e w3 ⟨rfl, hR3, hK3⟩
  have hK3 := hK2.join hK3 (fun i hi hlt => by simp at hi; omega)
  clear hR2 hK2
  go_wp2_with fail
  refine (RSt.put_busy hR3 (by decide) _).mono ?_
  rintro e w4 ⟨rfl, kd, rfl⟩
  have hR4 := hR3.sim (w' := w3.drewN kd) ⟨rfl, rfl, rfl, rfl⟩
  have hK4 := hK3.drewN' kd
  clear hR3 hK3
  go_wp2_with fail
  refine (RSt.take_ok hR4 rfl).mono ?_
  rintro e w5 ⟨rfl, hR5, hK5⟩
  have hK5 := hK4.join hK5 (fun i hi hlt => by simp at hi; omega)
  clear hR4 hK4
  go_wp2_with fail
  refine (RSt.len_any hR5).mono ?_
  rintro e w6 ⟨rfl, rfl⟩
  go_wp2
  go_ret
  exact ⟨rfl, hK5⟩

end Go.Proofs.Ytcpfgnbmnhelhaa
