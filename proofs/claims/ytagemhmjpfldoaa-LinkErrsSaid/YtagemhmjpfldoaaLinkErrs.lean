/- LinkErrs, walked: rooms and windows that are none; a nil end. -/
import Derived.Test.YtagemhmjpfldoaaLinkAwake
namespace Go.Proofs.Ytagemhmjpfldoaa.LinkErrs
open Go.RowKit
set_option linter.unusedVariables false
set_option linter.unusedSimpArgs false

set_option maxRecDepth 100000 in
set_option maxHeartbeats 4000000 in
theorem walk (w : World) (N P : Int) (hN : 0 ≤ N ∧ N ≤ 18446744073709551615) (hP : -9223372036854775808 ≤ P ∧ P ≤ 9223372036854775807) (k : Int) (hk : -9223372036854775808 ≤ k ∧ k ≤ 9223372036854775807) (v : Int) (hv : -9223372036854775808 ≤ v ∧ v ≤ 9223372036854775807) (x : ByteArray) :
    Calls Try.prog 9 #[.agg #[.int .u64 N, .int .i64 P], .int .i64 k, .int .i64 v, .string x] w fun e w' => e = .returned (.bool true) ∧ Kept [] w w' := by
  have fin : ∀ c : Prop, c = c := fun _ => rfl
  clear fin
  have h0 : k < 1 ∨ (¬ k < 1 ∧ 256 < k) ∨ (¬ k < 1 ∧ ¬ 256 < k ∧ v < 1) ∨ (¬ k < 1 ∧ ¬ 256 < k ∧ ¬ v < 1 ∧ 32 < v) ∨ (¬ k < 1 ∧ ¬ 256 < k ∧ ¬ v < 1 ∧ ¬ 32 < v) := by omega
  obtain ⟨hN1, hN2⟩ := hN
  obtain ⟨hP1, hP2⟩ := hP
  obtain ⟨hk1, hk2⟩ := hk
  obtain ⟨hv1, hv2⟩ := hv
  go_enter Try.func9, Try.ntmps9
  go_wp2_with fail
  refine (awake_any _).mono ?_
  rintro e w1 ⟨rfl, hK1⟩
  have hb1 := hK1.blk (blk_alloc_new w (.cells #[.int .u64 N, .int .i64 P] 43)) (by simp)
  have c0 : w1.cell? ⟨w.heap.size, 0, none⟩ = some (.int .u64 N) := by rw [cell_of hb1]; rfl
  have c1 : w1.cell? ⟨w.heap.size, 0 + 1, none⟩ = some (.int .i64 P) := by rw [cell_of hb1]; rfl
  have HK1 := hid (((Kept.refl [] w).alloc _).trans hK1)
  clear hK1 hb1
  go_wp2_with fail
  rcases h0 with h | ⟨h, h2⟩ | ⟨h, h2, h3⟩ | ⟨h, h2, h3, h4⟩ | ⟨h, h2, h3, h4⟩
  · refine (LSt.new_bad N P k v _ (.inl h)).mono ?_
    rintro e w2 ⟨rfl, hK2⟩
    have HK2 := hid (HK1.out.trans hK2)
    clear hK2 c0 c1 HK1
    go_wp2_with fail
    refine (LSt.take_nil _).mono ?_
    rintro e w3 ⟨rfl, hw3⟩
    subst hw3
    go_wp2_with fail
    refine (LSt.in_nil 0 0 0 0 none 0 0 _).mono ?_
    rintro e w3 ⟨rfl, hK3⟩
    have HK3 := hid (HK2.out.trans hK3)
    clear hK3 HK2
    go_wp2_with fail
    refine (LSt.out_nil _).mono ?_
    rintro e w4 ⟨rfl, hK4⟩
    have HK4 := hid (HK3.out.trans hK4)
    clear hK4 HK3
    go_wp2_with fail
    refine (LSt.put_nil x _).mono ?_
    rintro e w5 ⟨rfl, hw5⟩
    subst hw5
    go_wp2_with fail
    refine (LSt.room_nil _).mono ?_
    rintro e w5 ⟨rfl, hw5⟩
    subst hw5
    go_wp2_with fail
    refine (LSt.acked_nil _).mono ?_
    rintro e w5 ⟨rfl, hw5⟩
    subst hw5
    go_wp2_with fail
    refine (LSt.got_nil _).mono ?_
    rintro e w5 ⟨rfl, hw5⟩
    subst hw5
    go_wp2_with fail
    refine (LSt.idle_nil _).mono ?_
    rintro e w5 ⟨rfl, hw5⟩
    subst hw5
    go_wp2
    go_ret
    exact ⟨rfl, HK4.out.alloc _⟩
  · refine (LSt.new_bad N P k v _ (.inr h2)).mono ?_
    rintro e w2 ⟨rfl, hK2⟩
    have HK2 := hid (HK1.out.trans hK2)
    clear hK2 c0 c1 HK1
    go_wp2_with fail
    refine (LSt.take_nil _).mono ?_
    rintro e w3 ⟨rfl, hw3⟩
    subst hw3
    go_wp2_with fail
    refine (LSt.in_nil 0 0 0 0 none 0 0 _).mono ?_
    rintro e w3 ⟨rfl, hK3⟩
    have HK3 := hid (HK2.out.trans hK3)
    clear hK3 HK2
    go_wp2_with fail
    refine (LSt.out_nil _).mono ?_
    rintro e w4 ⟨rfl, hK4⟩
    have HK4 := hid (HK3.out.trans hK4)
    clear hK4 HK3
    go_wp2_with fail
    refine (LSt.put_nil x _).mono ?_
    rintro e w5 ⟨rfl, hw5⟩
    subst hw5
    go_wp2_with fail
    refine (LSt.room_nil _).mono ?_
    rintro e w5 ⟨rfl, hw5⟩
    subst hw5
    go_wp2_with fail
    refine (LSt.acked_nil _).mono ?_
    rintro e w5 ⟨rfl, hw5⟩
    subst hw5
    go_wp2_with fail
    refine (LSt.got_nil _).mono ?_
    rintro e w5 ⟨rfl, hw5⟩
    subst hw5
    go_wp2_with fail
    refine (LSt.idle_nil _).mono ?_
    rintro e w5 ⟨rfl, hw5⟩
    subst hw5
    go_wp2
    go_ret
    exact ⟨rfl, HK4.out.alloc _⟩
  · refine (LSt.new_badw N P k v k.toNat (by omega) _ (by omega) (by omega) (.inl h3)).mono ?_
    rintro e w2 ⟨rfl, hK2⟩
    have HK2 := hid (HK1.out.trans hK2)
    clear hK2 c0 c1 HK1
    go_wp2_with fail
    refine (LSt.take_nil _).mono ?_
    rintro e w3 ⟨rfl, hw3⟩
    subst hw3
    go_wp2_with fail
    refine (LSt.in_nil 0 0 0 0 none 0 0 _).mono ?_
    rintro e w3 ⟨rfl, hK3⟩
    have HK3 := hid (HK2.out.trans hK3)
    clear hK3 HK2
    go_wp2_with fail
    refine (LSt.out_nil _).mono ?_
    rintro e w4 ⟨rfl, hK4⟩
    have HK4 := hid (HK3.out.trans hK4)
    clear hK4 HK3
    go_wp2_with fail
    refine (LSt.put_nil x _).mono ?_
    rintro e w5 ⟨rfl, hw5⟩
    subst hw5
    go_wp2_with fail
    refine (LSt.room_nil _).mono ?_
    rintro e w5 ⟨rfl, hw5⟩
    subst hw5
    go_wp2_with fail
    refine (LSt.acked_nil _).mono ?_
    rintro e w5 ⟨rfl, hw5⟩
    subst hw5
    go_wp2_with fail
    refine (LSt.got_nil _).mono ?_
    rintro e w5 ⟨rfl, hw5⟩
    subst hw5
    go_wp2_with fail
    refine (LSt.idle_nil _).mono ?_
    rintro e w5 ⟨rfl, hw5⟩
    subst hw5
    go_wp2
    go_ret
    exact ⟨rfl, HK4.out.alloc _⟩
  · refine (LSt.new_badw N P k v k.toNat (by omega) _ (by omega) (by omega) (.inr h4)).mono ?_
    rintro e w2 ⟨rfl, hK2⟩
    have HK2 := hid (HK1.out.trans hK2)
    clear hK2 c0 c1 HK1
    go_wp2_with fail
    refine (LSt.take_nil _).mono ?_
    rintro e w3 ⟨rfl, hw3⟩
    subst hw3
    go_wp2_with fail
    refine (LSt.in_nil 0 0 0 0 none 0 0 _).mono ?_
    rintro e w3 ⟨rfl, hK3⟩
    have HK3 := hid (HK2.out.trans hK3)
    clear hK3 HK2
    go_wp2_with fail
    refine (LSt.out_nil _).mono ?_
    rintro e w4 ⟨rfl, hK4⟩
    have HK4 := hid (HK3.out.trans hK4)
    clear hK4 HK3
    go_wp2_with fail
    refine (LSt.put_nil x _).mono ?_
    rintro e w5 ⟨rfl, hw5⟩
    subst hw5
    go_wp2_with fail
    refine (LSt.room_nil _).mono ?_
    rintro e w5 ⟨rfl, hw5⟩
    subst hw5
    go_wp2_with fail
    refine (LSt.acked_nil _).mono ?_
    rintro e w5 ⟨rfl, hw5⟩
    subst hw5
    go_wp2_with fail
    refine (LSt.got_nil _).mono ?_
    rintro e w5 ⟨rfl, hw5⟩
    subst hw5
    go_wp2_with fail
    refine (LSt.idle_nil _).mono ?_
    rintro e w5 ⟨rfl, hw5⟩
    subst hw5
    go_wp2
    go_ret
    exact ⟨rfl, HK4.out.alloc _⟩
  · refine (LSt.new_any N P k v k.toNat v.toNat (by omega) (by omega) _ (by omega) (by omega) (by omega) (by omega)).mono ?_
    rintro e w2 ⟨E, hE1, hE2, rfl, hL, hK2, hf⟩
    clear hE1 hE2 hL hf
    have HK2 := hid (HK1.out.trans hK2)
    clear hK2 c0 c1 HK1
    go_wp2_with fail
    refine (LSt.take_nil _).mono ?_
    rintro e w3 ⟨rfl, hw3⟩
    subst hw3
    go_wp2_with fail
    refine (LSt.in_nil 0 0 0 0 none 0 0 _).mono ?_
    rintro e w3 ⟨rfl, hK3⟩
    have HK3 := hid (HK2.out.trans hK3)
    clear hK3 HK2
    go_wp2_with fail
    refine (LSt.out_nil _).mono ?_
    rintro e w4 ⟨rfl, hK4⟩
    have HK4 := hid (HK3.out.trans hK4)
    clear hK4 HK3
    go_wp2_with fail
    refine (LSt.put_nil x _).mono ?_
    rintro e w5 ⟨rfl, hw5⟩
    subst hw5
    go_wp2_with fail
    refine (LSt.room_nil _).mono ?_
    rintro e w5 ⟨rfl, hw5⟩
    subst hw5
    go_wp2_with fail
    refine (LSt.acked_nil _).mono ?_
    rintro e w5 ⟨rfl, hw5⟩
    subst hw5
    go_wp2_with fail
    refine (LSt.got_nil _).mono ?_
    rintro e w5 ⟨rfl, hw5⟩
    subst hw5
    go_wp2_with fail
    refine (LSt.idle_nil _).mono ?_
    rintro e w5 ⟨rfl, hw5⟩
    subst hw5
    go_wp2
    go_ret
    exact ⟨rfl, HK4.out.alloc _⟩
end Go.Proofs.Ytagemhmjpfldoaa.LinkErrs
