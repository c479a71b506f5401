/- WheelAgain answers true: the walk. -/
import Derived.Test.YtdnaeebehkplpaaWheelErrs
import Derived.Test.YtdnaeebehkplpaaArgs
namespace Go.Proofs.Ytdnaeebehkplpaa
namespace WheelAgain
open Go.RowKit
set_option linter.unusedVariables false
set_option linter.unusedSimpArgs false

/-- What is armed behind i rounds. -/
def LA (id : Int) (last i : Nat) : List Tm := if i = 0 then [] else [⟨3 + last, id, i⟩]
theorem less_LA (id : Int) (last i : Nat) : less (LA id last i) id = [] := by unfold LA less; split <;> simp
set_option maxRecDepth 100000 in
set_option maxHeartbeats 2000000 in
theorem walk (w : World) (id : Int) (hid0 : -9223372036854775808 ≤ id ∧ id ≤ 9223372036854775807) (a : Option Addr) (n cap : Nat) (xs : List Value) (hs : Sl w (.slice a n cap) xs) (ho : ∀ x ∈ xs, ∃ n : Int, x = .int .u8 n ∧ (Lit.int .u8 n).wf = true) :
    Calls Try.prog 7 #[.int .i64 id, .slice a n cap] w fun e w' => e = .returned (.bool true) ∧ Kept [] w w' := by
  obtain ⟨i1, i2⟩ := hid0
  have HW := hid (wf_int i1 i2)
  obtain ⟨hn, hcap, hmax⟩ := hs.len
  subst hn
  unfold maxLen at hmax
  by_cases hbad : 100 < xs.length
  · have hbad' : (100 : Int) < (xs.length : Int) := by omega
    go_enter Try.func7, Try.ntmps7
    go_wp2_with fail
    refine (awake_true w).mono ?_
    rintro e w1 ⟨rfl, hK1⟩
    go_wp2_with fail
    refine (awake_true w1).mono ?_
    rintro e w2 ⟨rfl, hK2⟩
    go_wp2_with fail
    go_ret
    exact ⟨rfl, hK1.trans hK2⟩
  have hl2 : ¬ (100 : Int) < (xs.length : Int) := by omega
  go_enter Try.func7, Try.ntmps7
  go_wp2_with fail
  refine (awake_true w).mono ?_
  rintro e w1 ⟨rfl, hK1⟩
  go_wp2_with fail
  refine (wr_new 3 w1 (by omega)).mono ?_
  rintro e w2 ⟨b, B, rfl, hR, hK2, hB⟩
  have hs1 := hK1.size
  have HK := hid (hK1.trans hK2)
  have HB := hid (fun k hk => by have := hB k hk; omega : ∀ k, B k → w.heap.size ≤ k)
  have HR := hid hR
  clear hK1 hK2 hB hR hs1
  go_wp2_with fail
  go_loopw [7, 8] (fun lv iv wr => ∃ (i last : Nat) (B : Nat → Prop), i ≤ xs.length ∧ last ≤ 256 ∧ lv = .int .u64 (last : Int) ∧ iv = .int .i64 (i : Int) ∧ WR wr b B 3 i (LA id last i) ∧ Kept [] w wr ∧ (∀ k, B k → w.heap.size ≤ k) ∧ (i = 0 → last = 0)) (fun _ iv _ => xs.length - (intOf iv).toNat)
  case atStart => exact ⟨0, 0, B, by omega, by omega, rfl, rfl, HR.out, HK.out, HB.out, fun _ => rfl⟩
  case round =>
    clear HR HK HB
    obtain ⟨i, last, B, hi, hlast, rfl, rfl, hR, hK, hB, h0⟩ := hrel
    by_cases hlt : i < xs.length
    · obtain ⟨g, off, rfl, hc⟩ := (hs.old hK (by simp)).cell hlt
      obtain ⟨y, hy, wy⟩ := ho _ (List.getElem_mem hlt)
      rw [hy] at hc
      obtain ⟨u1, v1⟩ := bounds_u8 wy
      obtain ⟨m, rfl⟩ : ∃ m : Nat, y = (m : Int) := ⟨y.toNat, by omega⟩
      have hlti : (i : Int) < (xs.length : Int) := by omega
      have HR := hid hR
      have HK := hid hK
      have HB := hid hB
      clear hR hK hB hy wy h0
      go_wp2_with fail
      have harm := wr_arm HR.out id HW.out (1 + m) (by omega) (by omega) (by omega)
      rw [show (((1 + m : Nat) : Int)) = 1 + (m : Int) by omega] at harm
      refine harm.mono ?_
      clear harm
      rintro e w3 ⟨rfl, B3, hR3, hS⟩
      obtain ⟨hK3, hB3⟩ := hS.base HK.out HB.out
      rw [less_LA, List.nil_append] at hR3
      have HR3 := hid hR3
      have HK3 := hid hK3
      have HB3 := hid hB3
      clear hR3 hK3 hB3 hS HR HK HB
      go_wp2_with fail
      refine (wr_len HR3.out).mono ?_
      rintro e w4 ⟨rfl, rfl⟩
      go_wp2_with fail
      go_roundw
      case rel => exact ⟨i + 1, 1 + m, B3, by omega, by omega, by go_num, by go_num, by unfold LA; rw [if_neg (by omega)]; exact HR3.out, HK3.out, HB3.out, by omega⟩
      case measure => simp [intOf]; omega
    · obtain rfl : i = xs.length := by omega
      have HR := hid hR
      have HK := hid hK
      clear hR hB
      by_cases hz : xs.length = 0
      · have hl0 := h0 hz
        subst hl0
        have hzi : ((xs.length : Int) == 0) = true := beq_iff_eq.2 (by omega)
        have hL : LA id 0 xs.length = [] := by unfold LA; rw [if_pos hz]
        have HL := hid hL
        clear hL hz h0
        go_wp2_with fail
        refine (wr_due_none HR.out id HW.out (by rw [HL.out]; simp)).mono ?_
        rintro e w4 ⟨rfl, rfl⟩
        go_wp2
        go_ret
        exact ⟨rfl, HK.out⟩
      · have hzi : ((xs.length : Int) == 0) = false := beq_eq_false_iff_ne.2 (by omega)
        have hL : LA id last xs.length = [⟨3 + last, id, xs.length⟩] := by unfold LA; rw [if_neg hz]
        have HL := hid hL
        clear hL hz h0
        go_wp2_with fail
        have hdue := wr_due HR.out (t := ⟨3 + last, id, xs.length⟩) (by rw [HL.out]; simp) id rfl
        rw [show (((3 + last : Nat) : Int)) = 3 + (last : Int) by omega] at hdue
        refine hdue.mono ?_
        clear hdue
        rintro e w4 ⟨rfl, hk4⟩
        have HK4 := hid (HK.out.trans hk4)
        clear hk4 HK hK
        go_wp2
        go_ret
        exact ⟨rfl, HK4.out⟩
end WheelAgain
end Go.Proofs.Ytdnaeebehkplpaa
