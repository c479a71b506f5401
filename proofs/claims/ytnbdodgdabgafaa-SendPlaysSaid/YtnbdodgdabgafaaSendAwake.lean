/- The sender's small example answers true and keeps what was there. -/
import Derived.Test.YtnbdodgdabgafaaSendSt
import Derived.Test.YtnbdodgdabgafaaSame
namespace Go.Proofs.Ytnbdodgdabgafaa
open Go.RowKit
set_option linter.unusedVariables false
set_option linter.unusedSimpArgs false

theorem Sl.lit' (w : World) (c : Array Value) (E : TypeId) (n H : Nat) (hn : c.size = n) (hm : n ≤ maxLen) (hH : H = w.heap.size) : Sl (w.alloc (.cells c E)) (.slice (some ⟨H, 0, none⟩) n n) c.toList := by
  subst hH
  exact Sl.lit w c E n hn hm

set_option maxRecDepth 100000 in
set_option maxHeartbeats 1000000 in
theorem awake_true (w : World) : Calls Try.prog 8 #[] w fun e w' => e = .returned (.bool true) ∧ Kept [] w w' := by
  go_enter Try.func8, Try.ntmps8
  go_wp2_with fail
  refine (SSt.new_any 3 2 3 2 rfl rfl w (by omega) (by omega) (by omega) (by omega)).mono ?_
  rintro e w1 ⟨c, b, bs, rfl, hS, hK, hc, hb, hbs⟩
  go_wp2_with fail
  refine (SSt.put_ok hS (by decide) _).mono ?_
  rintro e w2 ⟨rfl, hS2, hK2⟩
  have hK2 := hK.join hK2 (fun i hi hlt => by simp at hi; omega)
  clear hS hK
  go_wp2_with fail
  refine (SSt.put_ok hS2 (by decide) _).mono ?_
  rintro e w3 ⟨rfl, hS3, hK3⟩
  have hK3 := hK2.join hK3 (fun i hi hlt => by simp at hi; omega)
  clear hS2 hK2
  go_wp2_with fail
  refine (SSt.put_ok hS3 (by decide) _).mono ?_
  rintro e w4 ⟨rfl, hS4, hK4⟩
  have hK4 := hK3.join hK4 (fun i hi hlt => by simp at hi; omega)
  clear hS3 hK3
  go_wp2_with fail
  refine (SSt.window_any hS4 (fun x hx => by simp at hx; rcases hx with h | h | h <;> exact ⟨_, h⟩)).mono ?_
  rintro e w5 ⟨v5, rfl, hO5, hK5⟩
  have hS5 := hS4.kept hK5 (by simp) (by simp) (by simp)
  have hK5' := hK4.trans hK5
  have hlt5 := hS4.lt
  obtain ⟨a5, n5, c5, hv5⟩ := hO5.form'
  subst hv5
  have HO5 := hid hO5
  clear hO5 hS4 hK4 hK5
  go_wp2_with fail
  refine (SSt.ack_ok hS5 1 1 (by decide) (by omega) (by decide) (fun x hx => by simp at hx; rcases hx with h | h | h <;> exact ⟨_, h⟩)).mono ?_
  rintro e w6 ⟨rfl, hS6, hK6⟩
  have HO6 := hid (HO5.out.kept hK6 (fun k hk => by have := (HO5.out.lt k hk).1; simp; omega))
  have hK6' := hK5'.join hK6 (fun i hi hlt => by simp at hi; omega)
  clear hS5 hK5' hK6 HO5
  go_wp2_with fail
  refine (SSt.window_any hS6 (fun x hx => by simp at hx; rcases hx with h | h <;> exact ⟨_, h⟩)).mono ?_
  rintro e w7 ⟨v7, rfl, hO7, hK7⟩
  have hS7 := hS6.kept hK7 (by simp) (by simp) (by simp)
  have hK7' := hK6'.trans hK7
  have HO6 := hid (HO6.out.kept hK7 (not_in_nil _))
  obtain ⟨a7, n7, c7, hv7⟩ := hO7.form'
  subst hv7
  have HO7 := hid hO7
  clear hO7 hS6 hK6' hK7
  go_wp2_with fail
  have hal : Kept [] w7 (w7.alloc (.cells #[.string ⟨#[97]⟩, .string ⟨#[98]⟩] 9)) := (Kept.refl _ _).alloc _
  refine (same_true _ _ _ _ _ _ _ _ (HO6.out.kept hal (not_in_nil _)).sl (Sl.lit w7 _ 9 2 rfl (by decide)) (fun x hx => by simp at hx; rcases hx with h | h <;> exact ⟨_, h⟩)).mono ?_
  rintro e w8 ⟨rfl, k8, rfl⟩
  have HO7 := hid ((HO7.out.kept hal (not_in_nil _)).kept (Kept.drewN _ _ k8) (not_in_nil _))
  have hS8 := (hS7.kept hal (by simp) (by simp) (by simp)).kept (Kept.drewN [] _ k8) (by simp) (by simp) (by simp)
  have hK8 := (hK7'.trans hal).drewN' k8
  clear hS7 hK7' hal HO6
  go_wp2_with fail
  obtain ⟨w9, hw9⟩ : ∃ w9, w9 = (w7.alloc (.cells #[.string ⟨#[97]⟩, .string ⟨#[98]⟩] 9)).drewN k8 := ⟨_, rfl⟩
  have hsz9 : w7.heap.size + 1 = w9.heap.size := by rw [hw9]; simp [World.drewN]
  rw [← hw9] at HO7 hS8 hK8 ⊢
  clear hw9
  have hal : Kept [] w9 (w9.alloc (.cells #[.string ⟨#[98]⟩, .string ⟨#[99]⟩] 9)) := (Kept.refl _ _).alloc _
  refine (same_true _ _ _ _ _ _ _ _ (HO7.out.kept hal (not_in_nil _)).sl (Sl.lit' w9 _ 9 2 _ rfl (by decide) hsz9) (fun x hx => by simp at hx; rcases hx with h | h <;> exact ⟨_, h⟩)).mono ?_
  rintro e w8 ⟨rfl, k9, rfl⟩
  have hS9 := (hS8.kept hal (by simp) (by simp) (by simp)).kept (Kept.drewN [] _ k9) (by simp) (by simp) (by simp)
  have hK9 := (hK8.trans hal).drewN' k9
  clear hS8 hK8 hal hsz9
  go_wp2_with fail
  refine (SSt.ack_out hS9 4 (by decide) (by decide) (by decide)).mono ?_
  rintro e w10 ⟨rfl, k10, rfl⟩
  go_wp2_with fail
  go_ret
  exact ⟨rfl, ⟨hK9.os, hK9.tape, hK9.output, hK9.size, hK9.block⟩⟩

end Go.Proofs.Ytnbdodgdabgafaa
