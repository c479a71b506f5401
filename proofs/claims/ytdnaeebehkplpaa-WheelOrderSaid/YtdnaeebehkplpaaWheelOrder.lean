/- WheelOrder answers true: the walk. -/
import Derived.Test.YtdnaeebehkplpaaWheelErrs
import Derived.Test.YtdnaeebehkplpaaArgs
namespace Go.Proofs.Ytdnaeebehkplpaa
namespace WheelOrder
open Go.RowKit
set_option linter.unusedVariables false
set_option linter.unusedSimpArgs false

/-- What is armed behind i rounds. -/
def LO (D i : Nat) : List Tm := (List.range i).map fun (j : Nat) => ⟨D, (j : Int), j + 1⟩
theorem LO_len (D i : Nat) : (LO D i).length = i := by simp [LO]
theorem LO_succ (D i : Nat) : less (LO D i) (i : Int) ++ [⟨D, (i : Int), i + 1⟩] = LO D (i + 1) := by
  rw [less_none (by intro t ht; unfold LO at ht; simp at ht; obtain ⟨j, hj, rfl⟩ := ht; simp; omega)]
  unfold LO
  rw [List.range_succ, List.map_append]
  rfl
theorem LO_dues {D i m : Nat} (h : m ≠ D) : dues (LO D i) m = [] := List.filter_eq_nil_iff.2 (by intro t ht; unfold LO at ht; simp at ht; obtain ⟨j, hj, rfl⟩ := ht; simp; omega)
theorem LO_late {D i m : Nat} (h : m ≠ D) : late (LO D i) m = LO D i := List.filter_eq_self.2 (by intro t ht; unfold LO at ht; simp at ht; obtain ⟨j, hj, rfl⟩ := ht; simp; omega)
theorem LO_all (D i : Nat) : dues (LO D i) D = LO D i := List.filter_eq_self.2 (by intro t ht; unfold LO at ht; simp at ht; obtain ⟨j, hj, rfl⟩ := ht; simp)
theorem LO_ids (D i j : Nat) (h : j < (ids (LO D i)).length) : (ids (LO D i))[j] = .int .i64 (j : Int) := by simp [ids, LO]
set_option maxRecDepth 100000 in
set_option maxHeartbeats 4000000 in
theorem walk (w : World) (now0 : Int) (hn0 : 0 ≤ now0 ∧ now0 ≤ 18446744073709551615) (a : Option Addr) (n cap : Nat) (xs : List Value) (hs : Sl w (.slice a n cap) xs) (ho : ∀ x ∈ xs, ∃ n : Int, x = .int .u8 n ∧ (Lit.int .u8 n).wf = true) (m0 : Int) (hm0 : 0 ≤ m0 ∧ m0 ≤ 255) :
    Calls Try.prog 3 #[.int .u64 now0, .slice a n cap, .int .u8 m0] w fun e w' => e = .returned (.bool true) ∧ Kept [] w w' := by
  obtain ⟨now, rfl⟩ : ∃ now : Nat, now0 = (now : Int) := ⟨now0.toNat, by omega⟩
  obtain ⟨G, rfl⟩ : ∃ G : Nat, m0 = (G : Int) := ⟨m0.toNat, by omega⟩
  obtain ⟨h01, h02⟩ := hn0
  obtain ⟨hm1, hm2⟩ := hm0
  obtain ⟨hn, hcap, hmax⟩ := hs.len
  subst hn
  unfold maxLen at hmax
  clear ho hs
  by_cases hbad : 576460752303423488 < now
  · have hbad' : (576460752303423488 : Int) < (now : Int) := by omega
    go_enter Try.func3, Try.ntmps3
    go_wp2_with fail
    refine (awake_true w).mono ?_
    rintro e w1 ⟨rfl, hK1⟩
    go_wp2_with fail
    refine (awake_true w1).mono ?_
    rintro e w2 ⟨rfl, hK2⟩
    go_wp2_with fail
    go_ret
    exact ⟨rfl, hK1.trans hK2⟩
  have hl2 : ¬ (576460752303423488 : Int) < (now : Int) := by omega
  by_cases hbad2 : 40 < xs.length
  · have hbad' : (40 : Int) < (xs.length : Int) := by omega
    go_enter Try.func3, Try.ntmps3
    go_wp2_with fail
    refine (awake_true w).mono ?_
    rintro e w1 ⟨rfl, hK1⟩
    go_wp2_with fail
    refine (awake_true w1).mono ?_
    rintro e w2 ⟨rfl, hK2⟩
    go_wp2_with fail
    go_ret
    exact ⟨rfl, hK1.trans hK2⟩
  have hl3 : ¬ (40 : Int) < (xs.length : Int) := by omega
  obtain ⟨c, hc⟩ : ∃ c, c = xs.length := ⟨_, rfl⟩
  rw [← hc] at hcap hl3 hbad2 ⊢
  clear hc
  obtain ⟨N, hN⟩ : ∃ N : Nat, N = c + 1 + G := ⟨_, rfl⟩
  have hNi : (c : Int) + 1 + (G : Int) = (N : Int) := by omega
  have hNc : c + 1 ≤ N ∧ N ≤ 296 := by omega
  obtain ⟨n1, n2⟩ := hNc
  have n2i : (N : Int) ≤ 296 := by omega
  clear hN
  go_enter Try.func3, Try.ntmps3
  go_wp2_with fail
  refine (awake_true w).mono ?_
  rintro e w1 ⟨rfl, hK1⟩
  go_wp2_with fail
  refine (wr_new now w1 (by omega)).mono ?_
  rintro e w2 ⟨b, B, rfl, hR, hK2, hB⟩
  have hs1 := hK1.size
  have HK := hid (hK1.trans hK2)
  have HB := hid (fun k hk => by have := hB k hk; omega : ∀ k, B k → w.heap.size ≤ k)
  have HR := hid hR
  clear hK1 hK2 hB hR hs1
  go_wp2_with fail
  clear hNi
  go_loopw [10, 11, 12] (fun iv u1 u2 wr => ∃ (i : Nat) (B : Nat → Prop), i ≤ c ∧ iv = .int .i64 (i : Int) ∧ WR wr b B (now + i) i (LO (now + N) i) ∧ Kept [] w wr ∧ (∀ k, B k → w.heap.size ≤ k)) (fun iv _ _ _ => c - (intOf iv).toNat)
  case atStart => exact ⟨0, B, by omega, rfl, HR.out, HK.out, HB.out⟩
  case round =>
    clear HR HK HB
    obtain ⟨i, B, hi, rfl, hR, hK, hB⟩ := hrel
    have HR := hid hR
    have HK := hid hK
    have HB := hid hB
    clear hR hK hB
    by_cases hlt : i < c
    · have hlti : (i : Int) < (c : Int) := by omega
      have hiN : (i : Int) ≤ (N : Int) := by omega
      go_wp2_with fail
      have harm := wr_arm HR.out (i : Int) (wf_int (by omega) (by omega)) (N - i) (by omega) (by omega) (by omega)
      rw [show (((N - i : Nat) : Int)) = (N : Int) - (i : Int) by omega] at harm
      refine harm.mono ?_
      clear harm
      rintro e w3 ⟨rfl, B3, hR3, hS⟩
      obtain ⟨hK3, hB3⟩ := hS.base HK.out HB.out
      rw [show now + i + (N - i) = now + N by omega, LO_succ] at hR3
      have HR3 := hid hR3
      have HK3 := hid hK3
      have HB3 := hid hB3
      clear hR3 hK3 hB3 hS HR HK HB
      go_wp2_with fail
      refine (wr_tick HR3.out (by omega)).mono ?_
      rintro e w4 ⟨v, B4, rfl, hO4, hA4, hR4, hS⟩
      obtain ⟨hK4, hB4⟩ := hS.base HK3.out HB3.out
      rw [LO_dues (by omega)] at hO4
      rw [LO_late (by omega)] at hR4
      obtain ⟨a4, c4, rfl, _, hm4⟩ := hO4.form
      have HR4 := hid hR4
      have HK4 := hid hK4
      have HB4 := hid hB4
      clear hS hA4 HR3 HK3 HB3 hR4 hK4 hB4 hO4
      go_wp2_with fail
      go_roundw
      case rel => exact ⟨i + 1, B4, by omega, by go_num, HR4.out, HK4.out, HB4.out⟩
      case measure => simp [intOf]; omega
    · obtain rfl : i = c := by omega
      have hcN : (i : Int) + 1 ≤ (N : Int) := by omega
      go_wp2_with fail
      obtain ⟨wo, rfl⟩ : ∃ wo : World, wo = wr := ⟨_, rfl⟩
      go_loopw [13, 14, 15] (fun iv u1 u2 wr => ∃ (j : Nat) (B : Nat → Prop), i ≤ j ∧ j + 1 ≤ N ∧ iv = .int .u64 (j : Int) ∧ WR wr b B (now + j) i (LO (now + N) i) ∧ Kept [] w wr ∧ (∀ k, B k → w.heap.size ≤ k)) (fun iv _ _ _ => N - (intOf iv).toNat)
      case atStart => exact ⟨i, B, by omega, by omega, rfl, HR.out, HK.out, HB.out⟩
      case round =>
        clear HR HK HB
        obtain ⟨j, B, hj1, hj2, rfl, hR, hK, hB⟩ := hrel
        have HR := hid hR
        have HK := hid hK
        have HB := hid hB
        clear hR hK hB
        have hji : (j : Int) ≤ 296 := by omega
        by_cases hlt2 : j + 1 < N
        · have hlt2i : (j : Int) + 1 < (N : Int) := by omega
          go_wp2_with fail
          refine (wr_tick HR.out (by omega)).mono ?_
          rintro e w4 ⟨v, B4, rfl, hO4, hA4, hR4, hS⟩
          obtain ⟨hK4, hB4⟩ := hS.base HK.out HB.out
          rw [LO_dues (by omega)] at hO4
          rw [LO_late (by omega)] at hR4
          obtain ⟨a4, c4, rfl, _, hm4⟩ := hO4.form
          have HR4 := hid hR4
          have HK4 := hid hK4
          have HB4 := hid hB4
          clear hS hA4 HR HK HB hR4 hK4 hB4 hO4
          go_wp2_with fail
          go_roundw
          case rel => exact ⟨j + 1, B4, by omega, by omega, by go_num, HR4.out, HK4.out, HB4.out⟩
          case measure => simp [intOf]; omega
        · have hlt2i : ¬ (j : Int) + 1 < (N : Int) := by omega
          go_wp2_with fail
          refine (wr_tick HR.out (by omega)).mono ?_
          rintro e w4 ⟨v, B4, rfl, hO4, hA4, hR4, hS⟩
          obtain ⟨hK4, hB4⟩ := hS.base HK.out HB.out
          rw [show now + j + 1 = now + N by omega, LO_all] at hO4
          obtain ⟨a4, c4, hv, _, hm4⟩ := hO4.form
          rw [ids_length, LO_len] at hv
          subst hv
          have HO4 := hid hO4
          have HK4 := hid hK4
          clear hS hA4 HR HK HB hR4 hK4 hB4 hO4
          go_wp2_with fail
          obtain ⟨wp, rfl⟩ : ∃ wp : World, wp = w4 := ⟨_, rfl⟩
          go_loopw [18] (fun iv wr => ∃ q : Nat, q ≤ i ∧ iv = .int .i64 (q : Int) ∧ wr = wp) (fun iv _ => i - (intOf iv).toNat)
          case atStart => exact ⟨0, by omega, rfl, rfl⟩
          case round =>
            obtain ⟨q, hq, rfl, rfl⟩ := hrel
            by_cases hlt3 : q < i
            · have hlt3i : (q : Int) < (i : Int) := by omega
              obtain ⟨g, off, rfl, _, hcell, _, _⟩ := OwnL.cellAt HO4.out (i := q) (by rw [ids_length, LO_len]; exact hlt3)
              rw [LO_ids] at hcell
              go_wp2_with fail
              go_roundw
              case rel => exact ⟨q + 1, by omega, by go_num, trivial⟩
              case measure => simp [intOf]; omega
            · obtain rfl : q = i := by omega
              go_wp2
              go_ret
              exact ⟨rfl, HK4.out⟩
end WheelOrder
end Go.Proofs.Ytdnaeebehkplpaa
