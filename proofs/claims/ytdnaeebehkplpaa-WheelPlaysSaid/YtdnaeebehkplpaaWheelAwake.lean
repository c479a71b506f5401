/- The wheel's small example answers true and keeps what was there. -/
import Derived.Test.YtdnaeebehkplpaaWheelR
import Derived.Test.YtdnaeebehkplpaaWheelSame
namespace Go.Proofs.Ytdnaeebehkplpaa
open Go.RowKit
set_option linter.unusedVariables false
set_option linter.unusedSimpArgs false

theorem ids_int {l : List Tm} : ∀ x ∈ ids l, ∃ n : Int, x = .int .i64 n := by
  intro x hx
  unfold ids at hx
  obtain ⟨t, _, rfl⟩ := List.mem_map.1 hx
  exact ⟨_, rfl⟩
theorem ids_length (l : List Tm) : (ids l).length = l.length := by simp [ids]
set_option maxRecDepth 100000 in
set_option maxHeartbeats 1000000 in
theorem awake_true (w : World) : Calls Try.prog 10 #[] w fun e w' => e = .returned (.bool true) ∧ Kept [] w w' := by
  go_enter Try.func10, Try.ntmps10
  go_wp2_with fail
  refine (wr_new 0 w (by omega)).mono ?_
  rintro e w1 ⟨b, B, rfl, hR, hK, hB⟩
  go_wp2_with fail
  refine (wr_arm hR 1 (by decide) 2 (by omega) (by omega) (by omega)).mono ?_
  rintro e w2 ⟨rfl, B2, hR2, hS⟩
  obtain ⟨hK2, hB2⟩ := hS.base hK hB
  clear hR hK hB hS
  go_wp2_with fail
  refine (wr_arm hR2 2 (by decide) 1 (by omega) (by omega) (by omega)).mono ?_
  rintro e w3 ⟨rfl, B3, hR3, hS⟩
  obtain ⟨hK3, hB3⟩ := hS.base hK2 hB2
  clear hR2 hK2 hB2 hS
  go_wp2_with fail
  refine (wr_arm hR3 2 (by decide) 2 (by omega) (by omega) (by omega)).mono ?_
  rintro e w4 ⟨rfl, B4, hR4, hS⟩
  obtain ⟨hK4, hB4⟩ := hS.base hK3 hB3
  clear hR3 hK3 hB3 hS
  have hL : less (less (less [] 1 ++ [⟨0 + 2, 1, 0 + 1⟩]) 2 ++ [⟨0 + 1, 2, 0 + 1 + 1⟩]) 2 ++ [⟨0 + 2, 2, 0 + 1 + 1 + 1⟩] = [⟨2, 1, 1⟩, ⟨2, 2, 3⟩] := by rfl
  rw [hL] at hR4
  clear hL
  go_wp2_with fail
  refine (wr_tick hR4 (by omega)).mono ?_
  rintro e w5 ⟨v5, B5, rfl, hO5, hA5, hR5, hS⟩
  obtain ⟨hK5, hB5⟩ := hS.base hK4 hB4
  clear hR4 hK4 hB4 hS
  have hd : dues [⟨2, 1, 1⟩, ⟨2, 2, 3⟩] (0 + 1) = [] := by rfl
  have hl : late [⟨2, 1, 1⟩, ⟨2, 2, 3⟩] (0 + 1) = [⟨2, 1, 1⟩, ⟨2, 2, 3⟩] := by rfl
  rw [hd] at hO5
  rw [hl] at hR5
  obtain ⟨a5, c5, rfl, _, hm5⟩ := hO5.form
  clear hd hl
  go_wp2_with fail
  refine (wr_tick hR5 (by omega)).mono ?_
  rintro e w6 ⟨v6, B6, rfl, hO6, hA6, hR6, hS⟩
  obtain ⟨hK6, hB6⟩ := hS.base hK5 hB5
  have hd : dues [⟨2, 1, 1⟩, ⟨2, 2, 3⟩] (0 + 1 + 1) = [⟨2, 1, 1⟩, ⟨2, 2, 3⟩] := by rfl
  rw [hd] at hO6
  obtain ⟨a6, c6, rfl, _, hm6⟩ := hO6.form
  clear hd hR5 hK5 hB5 hS hO5 hA5
  have hk := (Kept.refl [] w6).alloc (.cells #[.int .i64 1, .int .i64 2] 3)
  have hK7 := hK6.trans hk
  have hs1 := hO6.sl.kept hk (not_in_nil _)
  have hs2 : Sl (w6.alloc (.cells #[.int .i64 1, .int .i64 2] 3)) _ (ids [⟨2, 1, 1⟩, ⟨2, 2, 3⟩]) := Sl.lit w6 #[.int .i64 1, .int .i64 2] 3 2 rfl (by decide)
  have H1 := hid hs1
  have H2 := hid hs2
  have HK := hid hK7
  clear hk hs1 hs2 hK7 hO6 hA6 hR6 hK6 hB6
  go_wp2_with fail
  refine (same_true _ _ _ _ _ _ _ _ H1.out H2.out ids_int).mono ?_
  rintro e w8 ⟨rfl, kd, rfl⟩
  go_wp2
  go_ret
  exact ⟨rfl, HK.out.drewN' kd⟩
end Go.Proofs.Ytdnaeebehkplpaa
