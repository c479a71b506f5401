/- Sets of nodes as numbers: with one, without one; the reference's. -/
import Derived.Test.YtkemkoiknoefdaaWheelR
import Derived.IntWalk
namespace Go.Proofs.Ytkemkoiknoefdaa
open Go.RowKit
set_option linter.unusedVariables false
set_option linter.unusedSimpArgs false

def setIn (n i : Nat) : Nat := (BitVec.ofNat 16 n ||| BitVec.ofNat 16 (2 ^ i)).toNat
def setOut (n i : Nat) : Nat := (BitVec.ofNat 16 n &&& ~~~BitVec.ofNat 16 (2 ^ i)).toNat
theorem setIn_lt (n i : Nat) : setIn n i < 65536 := (BitVec.isLt _)
theorem setOut_lt (n i : Nat) : setOut n i < 65536 := (BitVec.isLt _)
theorem setIn_bit (n i j : Nat) (hj : j < 16) : (setIn n i).testBit j = (n.testBit j || decide (i = j)) := by
  unfold setIn
  rw [BitVec.testBit_toNat, BitVec.getLsbD_or, BitVec.getLsbD_ofNat, BitVec.getLsbD_ofNat, Nat.testBit_two_pow]
  simp [hj]
theorem setOut_bit (n i j : Nat) (hj : j < 16) : (setOut n i).testBit j = (n.testBit j && decide (i ≠ j)) := by
  unfold setOut
  rw [BitVec.testBit_toNat, BitVec.getLsbD_and, BitVec.getLsbD_not, BitVec.getLsbD_ofNat, BitVec.getLsbD_ofNat, Nat.testBit_two_pow]
  simp [hj]
theorem set_eq {n m : Nat} (hn : n < 65536) (hm : m < 65536) (h : ∀ j, j < 16 → n.testBit j = m.testBit j) : n = m := by
  refine Nat.eq_of_testBit_eq fun j => ?_
  by_cases hj : j < 16
  · exact h j hj
  · have h2 : 2 ^ 16 ≤ 2 ^ j := Nat.pow_le_pow_right (by omega) (by omega)
    rw [Nat.testBit_lt_two_pow (Nat.lt_of_lt_of_le hn (by simpa using h2)), Nat.testBit_lt_two_pow (Nat.lt_of_lt_of_le hm (by simpa using h2))]
theorem pow_lt16 (i : Nat) (hi : i < 16) : 2 ^ i ≤ 32768 := by
  have : 2 ^ i ≤ 2 ^ 15 := Nat.pow_le_pow_right (by omega) (by omega)
  simpa using this
theorem pow16 (i : Nat) (hi : i < 16) : IntKind.u16.wrap ((2 : Int) ^ i) = ((2 ^ i : Nat) : Int) := by
  have h := pow_lt16 i hi
  have e : (2 : Int) ^ i = ((2 ^ i : Nat) : Int) := by simp
  rw [e]
  generalize 2 ^ i = p at h
  exact IntWalk.u16_in _ (by omega)
theorem bits_or16 (a b : Nat) : bits BinOp.or IntKind.u16 (a : Int) (b : Int) = ((BitVec.ofNat 16 a ||| BitVec.ofNat 16 b).toNat : Int) := by
  show IntKind.u16.wrap ((BitVec.ofInt 16 (a : Int) ||| BitVec.ofInt 16 (b : Int)).toNat : Int) = _
  rw [BitVec.ofInt_natCast, BitVec.ofInt_natCast]
  have := (BitVec.ofNat 16 a ||| BitVec.ofNat 16 b).isLt
  exact IntWalk.u16_in _ (by omega)
theorem bits_andNot16 (a b : Nat) : bits BinOp.andNot IntKind.u16 (a : Int) (b : Int) = ((BitVec.ofNat 16 a &&& ~~~BitVec.ofNat 16 b).toNat : Int) := by
  show IntKind.u16.wrap ((BitVec.ofInt 16 (a : Int) &&& ~~~BitVec.ofInt 16 (b : Int)).toNat : Int) = _
  rw [BitVec.ofInt_natCast, BitVec.ofInt_natCast]
  have := (BitVec.ofNat 16 a &&& ~~~BitVec.ofNat 16 b).isLt
  exact IntWalk.u16_in _ (by omega)
set_option maxHeartbeats 1000000 in
theorem with_any (n i : Nat) (hn : n < 65536) (hi : i < 16) (w : World) : Calls Try.prog 18 #[.int .u16 (n : Int), .int .i64 (i : Int)] w fun e w' => e = .returned (.int .u16 (setIn n i : Int)) ∧ w = w' := by
  have hi2 : (i : Int) < 16 := by omega
  go_enter Try.func18, Try.ntmps18
  go_wp2
  go_ret
  exact ⟨ret_int (by rw [pow16 i hi, bits_or16]; rfl), rfl⟩
set_option maxHeartbeats 1000000 in
theorem without_any (n i : Nat) (hn : n < 65536) (hi : i < 16) (w : World) : Calls Try.prog 22 #[.int .u16 (n : Int), .int .i64 (i : Int)] w fun e w' => e = .returned (.int .u16 (setOut n i : Int)) ∧ w = w' := by
  have hi2 : (i : Int) < 16 := by omega
  go_enter Try.func22, Try.ntmps22
  go_wp2
  go_ret
  exact ⟨ret_int (by rw [pow16 i hi, bits_andNot16]; rfl), rfl⟩
theorem setIn_add (n i : Nat) (hn : n < 65536) (hi : i < 16) (hb : n.testBit i = false) : setIn n i = n + 2 ^ i := by
  have hp := pow_lt16 i hi
  have h0 : BitVec.ofNat 16 n &&& BitVec.ofNat 16 (2 ^ i) = 0#16 := by
    apply BitVec.eq_of_getLsbD_eq
    intro j hj
    rw [BitVec.getLsbD_and, BitVec.getLsbD_ofNat, BitVec.getLsbD_ofNat, Nat.testBit_two_pow, BitVec.getLsbD_zero]
    by_cases e : i = j
    · subst e; simp [hb]
    · simp [e]
  have h1 := BitVec.add_eq_or_of_and_eq_zero _ _ h0
  unfold setIn
  rw [← h1, BitVec.toNat_add, BitVec.toNat_ofNat, BitVec.toNat_ofNat, Nat.mod_eq_of_lt (show n < 2 ^ 16 by simpa using hn), Nat.mod_eq_of_lt (show 2 ^ i < 2 ^ 16 by omega)]
  refine Nat.mod_eq_of_lt ?_
  have h2 : setIn n i = (n + 2 ^ i) % 65536 := by
    unfold setIn
    rw [← h1, BitVec.toNat_add, BitVec.toNat_ofNat, BitVec.toNat_ofNat, Nat.mod_eq_of_lt (show n < 2 ^ 16 by simpa using hn), Nat.mod_eq_of_lt (show 2 ^ i < 2 ^ 16 by omega)]
  refine Classical.byContradiction fun hge => ?_
  have hge : 65536 ≤ n + 2 ^ i := by omega
  have hd : n.testBit i = true := by
    rw [Nat.testBit_eq_decide_div_mod_eq]
    have e1 : n = (n - (65536 - 2 ^ i)) + (65536 - 2 ^ i) := by omega
    have hlt : n - (65536 - 2 ^ i) < 2 ^ i := by omega
    obtain ⟨k, hk⟩ : ∃ k, 65536 = 2 ^ i * (2 * k) := ⟨2 ^ (15 - i), by
      have : 2 ^ i * (2 * 2 ^ (15 - i)) = 2 ^ (i + (1 + (15 - i))) := by rw [Nat.pow_add, Nat.pow_add]; try simp
      rw [this, show i + (1 + (15 - i)) = 16 by omega]⟩
    have hkpos : 1 ≤ k := by
      rcases Nat.eq_zero_or_pos k with h | h
      · subst h; simp at hk
      · exact h
    have e2 : 65536 - 2 ^ i = 2 ^ i * (2 * k - 1) := by rw [Nat.mul_sub, Nat.mul_one, ← hk]
    have e3 : n / 2 ^ i = 2 * k - 1 := by
      rw [e1, e2, Nat.add_mul_div_left _ _ (Nat.two_pow_pos i), Nat.div_eq_of_lt (by rw [← e2]; exact hlt)]
      try omega
    rw [e3]
    simp
    try omega
  rw [hb] at hd
  cases hd
set_option maxHeartbeats 1000000 in
theorem bit_any (i : Nat) (hi : i < 16) (w : World) : Calls Try.prog 20 #[.int .i64 (i : Int)] w fun e w' => e = .returned (.int .u16 ((2 ^ i : Nat) : Int)) ∧ w = w' := by
  go_enter Try.func20, Try.ntmps20
  go_wp2
  go_loop [3, 4] (fun bv iv => ∃ k p : Nat, k ≤ i ∧ p = 2 ^ k ∧ bv = .int .u16 (p : Int) ∧ iv = .int .i64 (k : Int)) (fun _ iv => i - (intOf iv).toNat)
  case atStart => exact ⟨0, 1, by omega, rfl, rfl, rfl⟩
  case round =>
    obtain ⟨k, p, hk, hp, rfl, rfl⟩ := hrel
    by_cases hlt : k < i
    · have hlti : (k : Int) < (i : Int) := by omega
      have hp2 : p ≤ 16384 := by
        rw [hp]
        have : 2 ^ k ≤ 2 ^ 14 := Nat.pow_le_pow_right (by omega) (by omega)
        simpa using this
      have hp2i : (p : Int) ≤ 16384 := by omega
      have HP := hid hp
      clear hp
      go_wp2_with fail
      go_round
      case rel => exact ⟨k + 1, p * 2, by omega, by rw [HP.out, Nat.pow_succ], by go_num, by go_num⟩
      case measure => simp [intOf]; omega
    · obtain rfl : k = i := by omega
      have HP := hid hp
      clear hp
      go_wp2
      go_ret
      exact ⟨ret_int (by rw [HP.out]; simp), rfl⟩
theorem has_any (n i : Nat) (hn : n < 65536) (hi : i < 16) (w : World) : Calls Try.prog 19 #[.int .u16 (n : Int), .int .i64 (i : Int)] w fun e w' => e = .returned (.bool (n.testBit i)) ∧ w = w' := by
  have hi2 : (i : Int) < 16 := by omega
  have hni : (n : Int) ≤ 65535 := by omega
  obtain ⟨p, hp⟩ : ∃ p, p = 2 ^ i := ⟨_, rfl⟩
  have hp0 : ¬ (p : Int) = 0 := by have := Nat.two_pow_pos i; omega
  have hp1 : (1 : Int) ≤ (p : Int) := by have := Nat.two_pow_pos i; omega
  obtain ⟨q, hq⟩ : ∃ q, q = n / p := ⟨_, rfl⟩
  have hqn : q ≤ n := by rw [hq]; exact Nat.div_le_self _ _
  have hb : ((q : Int) % 2 == 1) = n.testBit i := by
    rw [Nat.testBit_eq_decide_div_mod_eq, ← hp, ← hq, Bool.eq_iff_iff]
    simp
    omega
  have hwq : IntKind.u16.wrap ((n : Int) / (p : Int)) = (q : Int) := by
    have e : (n : Int) / (p : Int) = (q : Int) := by rw [hq]; simp
    rw [e]
    exact IntWalk.u16_in _ (by omega)
  have hcall := bit_any i hi
  rw [← hp] at hcall
  have HC := hid hcall
  clear hcall hp hq hqn
  go_enter Try.func19, Try.ntmps19
  go_wp2_with fail
  refine (HC.out w).mono ?_
  rintro e w' ⟨rfl, rfl⟩
  go_wp2
  go_ret
  exact ⟨rfl, rfl⟩
theorem rwith_any (n i : Nat) (hn : n < 65536) (hi : i < 16) (w : World) : Calls Try.prog 12 #[.int .u16 (n : Int), .int .i64 (i : Int)] w fun e w' => e = .returned (.int .u16 (setIn n i : Int)) ∧ w = w' := by
  have hi2 : (i : Int) < 16 := by omega
  have hi3 : (i : Int) ≤ 15 := by omega
  have hni : (n : Int) ≤ 65535 := by omega
  have hp := pow_lt16 i hi
  have hH := has_any n i hn hi
  by_cases hb : n.testBit i = true
  · rw [hb] at hH
    have HH := hid hH
    have HB := hid hb
    clear hH hb
    go_enter Try.func12, Try.ntmps12
    go_wp2_with fail
    refine (HH.out w).mono ?_
    rintro e w' ⟨rfl, rfl⟩
    go_wp2
    go_ret
    exact ⟨ret_int (by rw [set_eq (setIn_lt n i) hn (fun j hj => by rw [setIn_bit n i j hj]; by_cases e : i = j; · subst e; simp [HB.out]
                                                                    · simp [e])]), rfl⟩
  · have hb : n.testBit i = false := by simpa using hb
    rw [hb] at hH
    have hadd := setIn_add n i hn hi hb
    have hlt := setIn_lt n i
    obtain ⟨p, hpe⟩ : ∃ p, p = 2 ^ i := ⟨_, rfl⟩
    have hcall := bit_any i hi
    rw [← hpe] at hcall hadd hp
    have hsum : (n : Int) + (p : Int) ≤ 65535 := by omega
    have HA := hid hadd
    have HC := hid hcall
    have HH := hid hH
    clear hH hb hcall hadd hlt hpe
    go_enter Try.func12, Try.ntmps12
    go_wp2_with fail
    refine (HH.out w).mono ?_
    rintro e w' ⟨rfl, rfl⟩
    go_wp2_with fail
    refine (HC.out w).mono ?_
    rintro e w' ⟨rfl, rfl⟩
    go_wp2
    go_ret
    exact ⟨ret_int (by rw [HA.out]; omega), rfl⟩
end Go.Proofs.Ytkemkoiknoefdaa
