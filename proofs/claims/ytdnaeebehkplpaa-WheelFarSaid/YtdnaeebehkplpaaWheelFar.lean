/- WheelFar answers true: the walk. -/
import Derived.Test.YtdnaeebehkplpaaWheelErrs
namespace Go.Proofs.Ytdnaeebehkplpaa
namespace WheelFar
open Go.RowKit
set_option linter.unusedVariables false
set_option linter.unusedSimpArgs false

/-- What is armed behind c ticks. -/
def LF (now N c : Nat) : List Tm := if c < N then [⟨now + N, 7, 1⟩] else []
theorem dues_other {now N c m : Nat} (h : m ≠ now + N) : dues (LF now N c) m = [] := by unfold LF dues; split <;> simp; omega
theorem late_other {now N c m : Nat} (h : m ≠ now + N) : late (LF now N c) m = LF now N c := by unfold LF late; split <;> simp; omega
set_option maxRecDepth 100000 in
set_option maxHeartbeats 2000000 in
theorem walk (w : World) (now0 : Int) (hn0 : 0 ≤ now0 ∧ now0 ≤ 18446744073709551615) (a : Int) (ha : 0 ≤ a ∧ a ≤ 65535) (m0 : Int) (hm0 : 0 ≤ m0 ∧ m0 ≤ 255) :
    Calls Try.prog 4 #[.int .u64 now0, .int .u16 a, .int .u8 m0] w fun e w' => e = .returned (.bool true) ∧ Kept [] w w' := by
  obtain ⟨now, rfl⟩ : ∃ now : Nat, now0 = (now : Int) := ⟨now0.toNat, by omega⟩
  obtain ⟨M, rfl⟩ : ∃ M : Nat, m0 = (M : Int) := ⟨m0.toNat, by omega⟩
  obtain ⟨N, hN⟩ : ∃ N : Nat, 1 + a % 5000 = (N : Int) := ⟨(1 + a % 5000).toNat, by omega⟩
  obtain ⟨h01, h02⟩ := hn0
  obtain ⟨ha1, ha2⟩ := ha
  obtain ⟨hm1, hm2⟩ := hm0
  by_cases hbad : 576460752303423488 < now
  · have hbad' : (576460752303423488 : Int) < (now : Int) := by omega
    clear hN
    go_enter Try.func4, Try.ntmps4
    go_wp2_with fail
    refine (awake_true w).mono ?_
    rintro e w1 ⟨rfl, hK1⟩
    go_wp2_with fail
    refine (awake_true w1).mono ?_
    rintro e w2 ⟨rfl, hK2⟩
    go_wp2_with fail
    go_ret
    exact ⟨rfl, hK1.trans hK2⟩
  have hl2 : ¬ (576460752303423488 : Int) < (now : Int) := by omega
  have hN1 : 1 ≤ N ∧ N ≤ 5000 := by omega
  obtain ⟨n1, n2⟩ := hN1
  have n2i : (N : Int) ≤ 5000 := by omega
  go_enter Try.func4, Try.ntmps4
  go_wp2_with fail
  refine (awake_true w).mono ?_
  rintro e w1 ⟨rfl, hK1⟩
  go_wp2_with fail
  refine (wr_new now w1 (by omega)).mono ?_
  rintro e w2 ⟨b, B, rfl, hR, hK2, hB⟩
  have hs1 := hK1.size
  have HK := hid (hK1.trans hK2)
  have HB := hid (fun k hk => by have := hB k hk; omega : ∀ k, B k → w.heap.size ≤ k)
  have HR := hid hR
  clear hK1 hK2 hB hR hs1
  go_wp2_with fail
  refine (wr_arm HR.out 7 (by decide) N (by omega) (by omega) (by omega)).mono ?_
  rintro e w3 ⟨rfl, B3, hR3, hS⟩
  obtain ⟨hK3, hB3⟩ := hS.base HK.out HB.out
  have HR3 := hid (by unfold LF; rw [if_pos (by omega)]; exact hR3 : WR w3 b B3 now 1 (LF now N 0))
  have HK3 := hid hK3
  have HB3 := hid hB3
  clear hR3 hK3 hB3 hS HR HK HB hN
  go_wp2_with fail
  go_loopw [10, 11, 12] (fun iv u1 u2 wr => ∃ (c : Nat) (B : Nat → Prop), c ≤ N + M ∧ iv = .int .u64 ((c : Int) + 1) ∧ WR wr b B (now + c) 1 (LF now N c) ∧ Kept [] w wr ∧ (∀ k, B k → w.heap.size ≤ k)) (fun iv _ _ _ => N + M + 1 - (intOf iv).toNat)
  case atStart => exact ⟨0, B3, by omega, rfl, HR3.out, HK3.out, HB3.out⟩
  case round =>
    clear HR3 HK3 HB3
    obtain ⟨c, B, hc, rfl, hR, hK, hB⟩ := hrel
    have HR := hid hR
    have HK := hid hK
    have HB := hid hB
    clear hR hK hB
    have hci : (c : Int) ≤ 5255 := by omega
    by_cases hlt : c < N + M
    · have hlti : (c : Int) + 1 ≤ (N : Int) + (M : Int) := by omega
      go_wp2_with fail
      refine (wr_tick HR.out (by omega)).mono ?_
      rintro e w4 ⟨v, B4, rfl, hO4, hA4, hR4, hS⟩
      obtain ⟨hK4, hB4⟩ := hS.base HK.out HB.out
      clear hS hA4 HR HK HB
      by_cases heq : c + 1 = N
      · have heqi : (c : Int) + 1 = (N : Int) := by omega
        have hd : dues (LF now N c) (now + c + 1) = [⟨now + N, 7, 1⟩] := by unfold LF dues; rw [if_pos (by omega)]; simp; omega
        have hl : late (LF now N c) (now + c + 1) = LF now N (c + 1) := by unfold LF late; rw [if_pos (by omega), if_neg (by omega)]; simp; omega
        rw [hd] at hO4
        rw [hl] at hR4
        have hO4 : OwnL wr.heap.size 3 w4 v [.int .i64 7] := hO4
        obtain ⟨a4, c4, rfl, _, hm4⟩ := hO4.form
        obtain ⟨g, off, rfl, _, hcell, _, _⟩ := hO4.cellAt (i := 0) (by simp)
        simp only [Nat.add_zero, List.getElem_cons_zero] at hcell
        have HR4 := hid hR4
        have HK4 := hid hK4
        have HB4 := hid hB4
        clear hd hl hR4 hK4 hB4 hO4
        go_wp2_with fail
        go_roundw
        case rel => exact ⟨c + 1, B4, by omega, by go_num, HR4.out, HK4.out, HB4.out⟩
        case measure => simp [intOf]; omega
      · have heqi : ¬ (c : Int) + 1 = (N : Int) := by omega
        have heqb : ((c : Int) + 1 == (N : Int)) = false := beq_eq_false_iff_ne.2 (by omega)
        have hl : late (LF now N c) (now + c + 1) = LF now N (c + 1) := by
          rw [late_other (by omega)]
          unfold LF
          by_cases e : c < N
          · rw [if_pos e, if_pos (by omega)]
          · rw [if_neg e, if_neg (by omega)]
        rw [dues_other (by omega)] at hO4
        rw [hl] at hR4
        obtain ⟨a4, c4, rfl, _, hm4⟩ := hO4.form
        have HR4 := hid hR4
        have HK4 := hid hK4
        have HB4 := hid hB4
        clear hl hR4 hK4 hB4 hO4
        go_wp2_with fail
        go_roundw
        case rel => exact ⟨c + 1, B4, by omega, by go_num, HR4.out, HK4.out, HB4.out⟩
        case measure => simp [intOf]; omega
    · obtain rfl : c = N + M := by omega
      have hlti : ¬ (((N + M : Nat) : Int)) + 1 ≤ (N : Int) + (M : Int) := by omega
      go_wp2_with fail
      refine (wr_len HR.out).mono ?_
      rintro e w4 ⟨rfl, rfl⟩
      have hL : LF now N (N + M) = [] := by unfold LF; rw [if_neg (by omega)]
      rw [hL]
      go_wp2
      go_ret
      exact ⟨rfl, HK.out⟩
end WheelFar
end Go.Proofs.Ytdnaeebehkplpaa
