/- The receiver's small example answers true and keeps what was there. -/
import Derived.Test.YtcmnecfdajnikaaRecvSt
namespace Go.Proofs.Ytcmnecfdajnikaa
open Go.RowKit
set_option linter.unusedVariables false
set_option linter.unusedSimpArgs false

set_option maxRecDepth 100000 in
set_option maxHeartbeats 400000 in
theorem awake_true (w : World) : Calls Try.prog 8 #[] w fun e w' => e = .returned (.bool true) ∧ Kept [] w w' := by
  go_enter Try.func8, Try.ntmps8
  go_wp2_with fail
  refine (CSt.new_any 2 2 rfl w (by omega) (by omega)).mono ?_
  rintro e w1 ⟨c, b, bs, rfl, hR, hK, hc, hb, hbs⟩
  go_wp2_with fail
  have hal : Kept [] w1 (w1.alloc (.cells #[.string ⟨#[97]⟩, .string ⟨#[98]⟩, .string ⟨#[99]⟩] 9)) := (Kept.refl _ _).alloc _
  have hlt := hR.lt
  refine (CSt.offer_at (hR.kept hal (by simp) (by simp) (by simp)) (by omega) 0 0 rfl (by omega) _ 3 3 _ (Sl.lit w1 _ 9 3 rfl (by decide)) (fun x hx => by simp at hx; rcases hx with h | h | h <;> exact ⟨_, h⟩) (fun k hk => by simp [Value.ownBlock] at hk; simp; omega)).mono ?_
  rintro e w2 ⟨k, hk, rfl, hR2, hK2⟩
  obtain rfl : k = 2 := hk
  have hK2 := (hK.trans hal).join hK2 (fun i hi hlt => by simp at hi; omega)
  clear hR hK hal hlt
  simp only [List.nil_append, List.drop_zero, List.take_succ_cons, List.take_zero, Nat.sub_self, Nat.zero_add] at hR2
  go_wp2_with fail
  refine (CSt.take_ok hR2 rfl).mono ?_
  rintro e w3 ⟨rfl, hR3, hK3⟩
  have hK3 := hK2.join hK3 (fun i hi hlt => by simp at hi; omega)
  clear hR2 hK2
  go_wp2_with fail
  have hal : Kept [] w3 (w3.alloc (.cells #[.string ⟨#[98]⟩, .string ⟨#[99]⟩] 9)) := (Kept.refl _ _).alloc _
  have hlt := hR3.lt
  refine (CSt.offer_at (hR3.kept hal (by simp) (by simp) (by simp)) (by omega) 1 1 rfl (by omega) _ 2 2 _ (Sl.lit w3 _ 9 2 rfl (by decide)) (fun x hx => by simp at hx; rcases hx with h | h <;> exact ⟨_, h⟩) (fun k hk => by simp [Value.ownBlock] at hk; simp; omega)).mono ?_
  rintro e w4 ⟨k, hk, rfl, hR4, hK4⟩
  obtain rfl : k = 1 := hk
  have hK4 := (hK3.trans hal).join hK4 (fun i hi hlt => by simp at hi; omega)
  clear hR3 hK3 hal hlt
  go_wp2_with fail
  have hal : Kept [] w4 (w4.alloc (.cells #[.string ⟨#[101]⟩] 9)) := (Kept.refl _ _).alloc _
  refine (CSt.offer_gap (hR4.kept hal (by simp) (by simp) (by simp)) 4 (by omega) _ _ _).mono ?_
  rintro e w5 ⟨rfl, rfl⟩
  have hK5 := hK4.trans hal
  clear hR4 hK4 hal
  go_wp2
  go_ret
  exact ⟨rfl, hK5⟩

end Go.Proofs.Ytcmnecfdajnikaa
