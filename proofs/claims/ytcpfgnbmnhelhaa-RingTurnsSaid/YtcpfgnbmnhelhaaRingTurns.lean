/- RingTurns answers true: the walk. -/
import Derived.Test.YtcpfgnbmnhelhaaAwake
import Derived.Test.YtcpfgnbmnhelhaaRingIn
namespace Go.Proofs.Ytcpfgnbmnhelhaa
namespace RingTurns
open Go.RowKit
set_option linter.unusedVariables false
set_option linter.unusedSimpArgs false

def items (got n : Nat) : List Value := (List.range n).map fun t => .int .i64 ((got + t : Nat) : Int)
theorem items_len (got n : Nat) : (items got n).length = n := by simp [items]
theorem items_snoc (got n : Nat) : items got n ++ [.int .i64 ((got + n : Nat) : Int)] = items got (n + 1) := by simp [items, List.range_succ]
theorem items_cons (got n : Nat) : items got (n + 1) = .int .i64 ((got : Nat) : Int) :: items (got + 1) n := by
  simp only [items, List.range_succ_eq_map, List.map_cons, List.map_map, Nat.add_zero, List.cons.injEq, true_and]
  apply List.map_congr_left
  intro t _
  simp only [Function.comp, Nat.succ_eq_add_one]
  congr 2
  omega

set_option maxHeartbeats 1000000 in
theorem walk (w : World) (a0 : Int) (h0 : 0 ≤ a0 ∧ a0 ≤ 255) (a1 : Int) (h1 : 0 ≤ a1 ∧ a1 ≤ 255) (a2 : Int) (h2 : 0 ≤ a2 ∧ a2 ≤ 65535) :
    Calls Try.prog 3 #[.int .u8 a0, .int .u8 a1, .int .u16 a2] w fun e w' => e = .returned (.bool true) ∧ Kept [] w w' := by
  obtain ⟨b0, c0⟩ := h0
  obtain ⟨b1, c1⟩ := h1
  obtain ⟨b2, c2⟩ := h2
  obtain ⟨M, hM⟩ : ∃ M : Nat, 1 + a0 % 20 = (M : Int) := ⟨(1 + a0 % 20).toNat, by omega⟩
  have hM1 : 1 ≤ M := by omega
  have hM2 : M ≤ 20 := by omega
  obtain ⟨K, hKn⟩ : ∃ K : Nat, 1 + a1 % (1 + a0 % 20) = (K : Int) := by
    have := Int.emod_nonneg a1 (b := 1 + a0 % 20) (by omega)
    exact ⟨(1 + a1 % (1 + a0 % 20)).toNat, by omega⟩
  have hq0 : 0 ≤ a1 % (1 + a0 % 20) := Int.emod_nonneg a1 (by omega)
  have hq1 : a1 % (1 + a0 % 20) < 20 := by have := Int.emod_lt_of_pos a1 (b := 1 + a0 % 20) (by omega); omega
  have hK1 : 1 ≤ K := by omega
  have hK20 : K ≤ 20 := by omega
  obtain ⟨T, hT⟩ : ∃ T : Nat, a2 % 300 = (T : Int) := ⟨(a2 % 300).toNat, by omega⟩
  have hT3 : T < 300 := by omega
  have HM := hid hM
  have HK := hid hKn
  have HT := hid hT
  clear hM hKn hT
  go_enter Try.func3, Try.ntmps3
  go_wp2_with fail
  refine (awake_true w).mono ?_
  rintro e w1 ⟨rfl, hKw1⟩
  go_wp2_with fail
  refine (RIn.new_any _ M HM.out w1 (by omega) (by omega)).mono ?_
  rintro e w2 ⟨b, bs, rfl, hR, hKw2, hb, hbs⟩
  have hKw := hKw1.trans hKw2
  have hb : w.heap.size ≤ b := by have := hKw1.size; omega
  have hbs : w.heap.size ≤ bs := by have := hKw1.size; omega
  clear hKw1 hKw2
  go_wp2_with fail
  rw [HK.out]
  go_loopw [11, 12, 13] (fun p g iv wr => ∃ got n : Nat, got ≤ T ∧ n ≤ M ∧ p = .int .i64 ((got + n : Nat) : Int) ∧ g = .int .i64 (got : Int) ∧ iv = .int .i64 (got : Int) ∧ Ring 3 71 wr b bs M (items got n) ∧ Kept [] w wr) (fun _ _ iv _ => T - (intOf iv).toNat)
  case atStart => exact ⟨0, 0, by omega, by omega, rfl, rfl, rfl, hR, hKw⟩
  case round =>
    obtain ⟨got, n, h1, h2, rfl, rfl, rfl, hR, hKw⟩ := hrel
    by_cases hlt : got < T
    · have hlt' : (got : Int) < a2 % 300 := by have := HT.out; omega
      go_wp2_with fail
      obtain ⟨wo, rfl⟩ : ∃ wo : World, wo = wr := ⟨_, rfl⟩
      go_loopw [11, 14] (fun p jv wr => ∃ n j : Nat, j ≤ K ∧ n ≤ M ∧ (0 < j → 0 < n) ∧ p = .int .i64 ((got + n : Nat) : Int) ∧ jv = .int .i64 (j : Int) ∧ Ring 3 71 wr b bs M (items got n) ∧ Kept [] w wr) (fun _ jv _ => K - (intOf jv).toNat)
      case atStart => exact ⟨n, 0, by omega, by omega, by omega, rfl, rfl, hR, hKw⟩
      case round =>
        obtain ⟨n, j, h3, h4, h5, rfl, rfl, hR, hKw⟩ := hrel
        by_cases hj : j < K
        · by_cases hn : n < M
          · go_wp2_with fail
            refine (RIn.put_ok hR (by rw [items_len]; exact hn) ((got + n : Nat) : Int)).mono ?_
            rintro e w3 ⟨rfl, hR3, hK3⟩
            rw [items_snoc] at hR3
            have hKw3 := hKw.join hK3 (fun i hi hlt => by simp at hi; omega)
            clear hR hKw hK3
            go_wp2_with fail
            go_roundw
            case rel => exact ⟨n + 1, j + 1, by omega, by omega, by omega, by go_num, by go_num, hR3, hKw3⟩
            case measure => simp [intOf]; omega
          · obtain rfl : n = M := by omega
            go_wp2_with fail
            refine (RIn.put_busy hR (by rw [items_len]) ((got + n : Nat) : Int)).mono ?_
            rintro e w3 ⟨rfl, kd, rfl⟩
            have hR3 := hR.sim (w' := wr.drewN kd) ⟨rfl, rfl, rfl, rfl⟩
            have hKw3 := hKw.drewN' kd
            clear hR hKw
            go_wp2_with fail
            go_roundw
            case rel => exact ⟨n, j + 1, by omega, by omega, by omega, rfl, by go_num, hR3, hKw3⟩
            case measure => simp [intOf]; omega
        · obtain ⟨n', rfl⟩ : ∃ n', n = n' + 1 := ⟨n - 1, by omega⟩
          rw [items_cons] at hR
          go_wp2_with fail
          refine (RIn.take_ok hR rfl).mono ?_
          rintro e w3 ⟨rfl, hR3, hK3⟩
          have hKw3 := hKw.join hK3 (fun i hi hlt => by simp at hi; omega)
          clear hR hKw hK3
          go_wp2_with fail
          go_roundw
          case rel => exact ⟨got + 1, n', by omega, by omega, by go_num, by go_num, by go_num, hR3, hKw3⟩
          case measure => simp [intOf]; omega
    · have hlt' : ¬ (got : Int) < a2 % 300 := by have := HT.out; omega
      go_wp2_with fail
      refine (RIn.len_any hR).mono ?_
      rintro e w3 ⟨rfl, rfl⟩
      rw [items_len]
      go_wp2_with fail
      go_ret
      exact ⟨ret_bool (by simp; omega), hKw⟩
end RingTurns
end Go.Proofs.Ytcpfgnbmnhelhaa
