/- SendAcks answers true: the walk. -/
import Derived.Test.YtnbdodgdabgafaaSendAwake
import Derived.Test.YtnbdodgdabgafaaSendIn
namespace Go.Proofs.Ytnbdodgdabgafaa
namespace SendAcks
open Go.RowKit
set_option linter.unusedVariables false
set_option linter.unusedSimpArgs false

def items (got n : Nat) : List Value := (List.range n).map fun t => .int .i64 ((got + t : Nat) : Int)
theorem items_len (got n : Nat) : (items got n).length = n := by simp [items]
theorem items_snoc (n : Nat) : items 0 n ++ [.int .i64 (n : Int)] = items 0 (n + 1) := by simp [items, List.range_succ]
theorem items_drop (got n d : Nat) : (items got n).drop d = items (got + d) (n - d) := by
  apply List.ext_getElem
  · simp [items]
  · intro i h1 h2
    simp [items, Nat.add_assoc]
theorem items_int {got n : Nat} {x : Value} (h : x ∈ items got n) : ∃ s : Int, x = .int .i64 s := by
  obtain ⟨t, _, rfl⟩ := List.mem_map.1 h
  exact ⟨_, rfl⟩

set_option maxRecDepth 100000 in
set_option maxHeartbeats 4000000 in
theorem walk (w : World) (a : Option Addr) (n cap : Nat) (xs : List Value) (hs : Sl w (.slice a n cap) xs) (ho : ∀ x ∈ xs, ∃ n : Int, x = .int .u8 n ∧ (Lit.int .u8 n).wf = true) (p : Int) (hp : 0 ≤ p ∧ p ≤ 255) :
    Calls Try.prog 5 #[.slice a n cap, .int .u8 p] w fun e w' => e = .returned (.bool true) ∧ Kept [] w w' := by
  obtain ⟨hn, hcap, hmax⟩ := hs.len
  subst hn
  unfold maxLen at hmax
  obtain ⟨p0, p1⟩ := hp
  by_cases hbad : 60 < xs.length
  · have hbad' : (60 : Int) < (xs.length : Int) := by omega
    go_enter Try.func5, Try.ntmps5
    go_wp2_with fail
    refine (awake_true w).mono ?_
    rintro e w1 ⟨rfl, hK1⟩
    go_wp2_with fail
    refine (awake_true w1).mono ?_
    rintro e w2 ⟨rfl, hK2⟩
    go_wp2_with fail
    go_ret
    exact ⟨rfl, hK1.trans hK2⟩
  have hl2 : ¬ (60 : Int) < (xs.length : Int) := by omega
  obtain ⟨W, hW⟩ : ∃ W : Nat, 1 + p % 32 = (W : Int) := ⟨(1 + p % 32).toNat, by omega⟩
  have hW1 : 1 ≤ W := by omega
  have hW2 : W ≤ 32 := by omega
  have HW := hid hW
  clear hW
  go_enter Try.func5, Try.ntmps5
  go_wp2_with fail
  refine (awake_true w).mono ?_
  rintro e w1 ⟨rfl, hKp1⟩
  go_wp2_with fail
  refine (SIn.new_any 40 _ 40 W rfl HW.out w1 (by omega) (by omega) hW1 hW2).mono ?_
  rintro e w2 ⟨c, b, bs, rfl, hS, hKp2, hc, hb, hbs⟩
  have hKp := hKp1.trans hKp2
  have hsz := hKp1.size
  have hd : w.heap.size ≤ c ∧ w.heap.size ≤ b ∧ w.heap.size ≤ bs := by omega
  clear hKp1 hKp2 hc hb hbs hsz
  rw [HW.out]
  go_wp2_with fail
  go_loopw [8] (fun iv wr => ∃ i : Nat, i ≤ 40 ∧ iv = .int .i64 (i : Int) ∧ SIn.Send wr c b bs 40 W 0 (items 0 i) ∧ Kept [] w wr) (fun iv _ => 40 - (intOf iv).toNat)
  case atStart => exact ⟨0, by omega, rfl, hS, hKp⟩
  case round =>
    clear hS hKp
    obtain ⟨i, h1, rfl, hS, hKp⟩ := hrel
    by_cases hi : i < 40
    · have hi' : (i : Int) < 40 := by omega
      go_wp2_with fail
      refine (SIn.put_ok hS (by rw [items_len]; exact hi) (i : Int)).mono ?_
      rintro e w3 ⟨rfl, hS3, hK3⟩
      rw [items_snoc] at hS3
      have hKp3 := hKp.join hK3 (fun i hi hlt => by simp at hi; omega)
      clear hS hKp hK3
      go_wp2_with fail
      go_roundw
      case rel => exact ⟨i + 1, by omega, by go_num, hS3, hKp3⟩
      case measure => simp [intOf]; omega
    · have hi40 : i = 40 := by omega
      have hi' : ¬ (i : Int) < 40 := by omega
      rw [hi40] at hS
      clear hi40
      go_wp2_with fail
      obtain ⟨wo, rfl⟩ : ∃ wo : World, wo = wr := ⟨_, rfl⟩
      go_loopw [9, 10] (fun bv iv wr => ∃ i best : Nat, i ≤ xs.length ∧ best ≤ 40 ∧ bv = .int .i64 (best : Int) ∧ iv = .int .i64 (i : Int) ∧ SIn.Send wr c b bs 40 W best (items best (40 - best)) ∧ Kept [] w wr) (fun _ iv _ => xs.length - (intOf iv).toNat)
      case atStart => exact ⟨0, 0, by omega, by omega, rfl, rfl, hS, hKp⟩
      case round =>
        clear hS hKp
        obtain ⟨j, best, h2, hbest, rfl, rfl, hS, hKp⟩ := hrel
        by_cases hi : j < xs.length
        · obtain ⟨g, off, rfl, hc⟩ := (hs.old hKp (by simp)).cell hi
          obtain ⟨y, hy, wy⟩ := ho _ (List.getElem_mem hi)
          rw [hy] at hc
          obtain ⟨u1, v1⟩ := bounds_u8 wy
          clear hy wy
          obtain ⟨q, hq⟩ : ∃ q : Nat, y % 45 = (q : Int) := ⟨(y % 45).toNat, by omega⟩
          have hq45 : q < 45 := by omega
          have hS0 := hS
          by_cases hst : q < best
          · skip
            have hstale : (q : Int) < (best : Int) := by omega
            have hfacts : ¬ (40 : Int) < (best : Int) + (W : Int) ∨ (40 : Int) < (best : Int) + (W : Int) := by omega
            rcases hfacts with hf | hf
            all_goals
              go_wp2_with fail
              refine (SIn.ack_stale hS (q : Int) hstale).mono ?_
              rintro e w3 ⟨rfl, rfl⟩
              have hS2 := hS
              have hKp2 := hKp
              have hbest2 := hbest
              go_wp2_with fail
              refine (SIn.acked_any hS2).mono ?_
              rintro e w4 ⟨rfl, rfl⟩
              go_wp2_with fail
              refine (SIn.len_any hS2).mono ?_
              rintro e w4 ⟨rfl, rfl⟩
              rw [items_len]
              go_wp2_with fail
              go_roundw
              case rel => exact ⟨j + 1, _, by omega, hbest2, rfl, by go_num, hS2, hKp2⟩
              case measure => simp [intOf]; omega
          · have hst' : ¬ (q : Int) < (best : Int) := by omega
            by_cases hend : 40 < best + W
            · have hend' : (40 : Int) < (best : Int) + (W : Int) := by omega
              by_cases hov : 40 < q
              · skip
                have hov' : (40 : Int) < (q : Int) := by omega
                go_wp2_with fail
                refine (SIn.ack_out hS (q : Int) (by omega) (by omega) (by rw [items_len]; omega)).mono ?_
                rintro e w3 ⟨rfl, k3, rfl⟩
                have hS2 := hS.sim (w' := wr.drewN k3) ⟨rfl, rfl, rfl, rfl⟩
                have hKp2 := hKp.drewN' k3
                have hbest2 := hbest
                clear hS hKp
                go_wp2_with fail

                refine (SIn.acked_any hS2).mono ?_
                rintro e w4 ⟨rfl, rfl⟩
                go_wp2_with fail
                refine (SIn.len_any hS2).mono ?_
                rintro e w4 ⟨rfl, rfl⟩
                rw [items_len]
                go_wp2_with fail
                go_roundw
                case rel => exact ⟨j + 1, _, by omega, hbest2, rfl, by go_num, hS2, hKp2⟩
                case measure => simp [intOf]; omega
              · skip
                have hd0 : ∃ d : Nat, q = best + d := ⟨q - best, by omega⟩
                obtain ⟨d, rfl⟩ := hd0
                have hov' : ¬ (40 : Int) < (best : Int) + (d : Int) := by omega
                go_wp2_with fail
                refine (SIn.ack_ok hS _ d (by push_cast; rfl) (by omega) (by rw [items_len]; omega) (fun x hx => items_int hx)).mono ?_
                rintro e w3 ⟨rfl, hS2, hK2⟩
                rw [items_drop, show 40 - best - d = 40 - (best + d) by omega] at hS2
                have hKp2 := hKp.join hK2 (fun i hi hlt => by simp at hi; omega)
                have hbest2 : best + d ≤ 40 := by omega
                clear hS hKp hK2
                go_wp2_with fail

                refine (SIn.acked_any hS2).mono ?_
                rintro e w4 ⟨rfl, rfl⟩
                go_wp2_with fail
                refine (SIn.len_any hS2).mono ?_
                rintro e w4 ⟨rfl, rfl⟩
                rw [items_len]
                go_wp2_with fail
                go_roundw
                case rel => exact ⟨j + 1, best + d, by omega, hbest2, by go_num, by go_num, hS2, hKp2⟩
                case measure => simp [intOf]; omega
            · have hend' : ¬ (40 : Int) < (best : Int) + (W : Int) := by omega
              by_cases hov : best + W < q
              · skip
                have hov' : (best : Int) + (W : Int) < (q : Int) := by omega
                go_wp2_with fail
                refine (SIn.ack_out hS (q : Int) (by omega) (by omega) (by rw [items_len]; omega)).mono ?_
                rintro e w3 ⟨rfl, k3, rfl⟩
                have hS2 := hS.sim (w' := wr.drewN k3) ⟨rfl, rfl, rfl, rfl⟩
                have hKp2 := hKp.drewN' k3
                have hbest2 := hbest
                clear hS hKp
                go_wp2_with fail

                refine (SIn.acked_any hS2).mono ?_
                rintro e w4 ⟨rfl, rfl⟩
                go_wp2_with fail
                refine (SIn.len_any hS2).mono ?_
                rintro e w4 ⟨rfl, rfl⟩
                rw [items_len]
                go_wp2_with fail
                go_roundw
                case rel => exact ⟨j + 1, _, by omega, hbest2, rfl, by go_num, hS2, hKp2⟩
                case measure => simp [intOf]; omega
              · skip
                have hd0 : ∃ d : Nat, q = best + d := ⟨q - best, by omega⟩
                obtain ⟨d, rfl⟩ := hd0
                have hov' : ¬ (best : Int) + (W : Int) < (best : Int) + (d : Int) := by omega
                go_wp2_with fail
                refine (SIn.ack_ok hS _ d (by push_cast; rfl) (by omega) (by rw [items_len]; omega) (fun x hx => items_int hx)).mono ?_
                rintro e w3 ⟨rfl, hS2, hK2⟩
                rw [items_drop, show 40 - best - d = 40 - (best + d) by omega] at hS2
                have hKp2 := hKp.join hK2 (fun i hi hlt => by simp at hi; omega)
                have hbest2 : best + d ≤ 40 := by omega
                clear hS hKp hK2
                go_wp2_with fail

                refine (SIn.acked_any hS2).mono ?_
                rintro e w4 ⟨rfl, rfl⟩
                go_wp2_with fail
                refine (SIn.len_any hS2).mono ?_
                rintro e w4 ⟨rfl, rfl⟩
                rw [items_len]
                go_wp2_with fail
                go_roundw
                case rel => exact ⟨j + 1, best + d, by omega, hbest2, by go_num, by go_num, hS2, hKp2⟩
                case measure => simp [intOf]; omega
        · go_wp2_with fail
          go_ret
          exact ⟨rfl, hKp⟩
end SendAcks
end Go.Proofs.Ytnbdodgdabgafaa
