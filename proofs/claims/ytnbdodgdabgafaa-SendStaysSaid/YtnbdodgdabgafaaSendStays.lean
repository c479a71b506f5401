/- SendStays answers true: the walk. -/
import Derived.Test.YtnbdodgdabgafaaSendAwake
namespace Go.Proofs.Ytnbdodgdabgafaa
namespace SendStays
open Go.RowKit
set_option linter.unusedVariables false
set_option linter.unusedSimpArgs false

theorem win_take (l more : List Value) (W : Nat) (q : Nat) (hq : q = (l.take W).length) : ((l ++ more).take W).take q = l.take W := by
  subst hq
  rw [List.take_take]
  rcases Nat.le_total W l.length with h | h
  · rw [List.length_take, Nat.min_eq_left h, Nat.min_self, List.take_append_of_le_length h]
  · rw [List.take_of_length_le h, List.take_append_of_le_length (by omega), List.take_of_length_le (by omega)]

set_option maxRecDepth 100000 in
set_option maxHeartbeats 4000000 in
theorem walk (w : World) (a : Option Addr) (n cap : Nat) (xs : List Value) (hs : Sl w (.slice a n cap) xs) (ho : ∀ x ∈ xs, ∃ s : ByteArray, x = .string s) (hz : cap * 16 ≤ 140737488351232)
    (a1 : Option Addr) (n1 cap1 : Nat) (ys : List Value) (hs1 : Sl w (.slice a1 n1 cap1) ys) (ho1 : ∀ x ∈ ys, ∃ s : ByteArray, x = .string s) (hz1 : cap1 * 16 ≤ 140737488351232) (p : Int) (hp : 0 ≤ p ∧ p ≤ 255) :
    Calls Try.prog 3 #[.slice a n cap, .slice a1 n1 cap1, .int .u8 p] w fun e w' => e = .returned (.bool true) ∧ Kept [] w w' := by
  obtain ⟨hn, hcap, hmax⟩ := hs.len
  subst hn
  obtain ⟨hn1, hcap1, hmax1⟩ := hs1.len
  subst hn1
  unfold maxLen at hmax hmax1
  obtain ⟨p0, p1⟩ := hp
  by_cases hbad : 200 < xs.length + ys.length
  · have hbad' : (200 : Int) < (xs.length : Int) + (ys.length : Int) := by omega
    go_enter Try.func3, Try.ntmps3
    go_wp2_with fail
    refine (awake_true w).mono ?_
    rintro e w1 ⟨rfl, hK1⟩
    go_wp2_with fail
    refine (awake_true w1).mono ?_
    rintro e w2 ⟨rfl, hK2⟩
    go_wp2_with fail
    go_ret
    exact ⟨rfl, hK1.trans hK2⟩
  have hbad' : ¬ (200 : Int) < (xs.length : Int) + (ys.length : Int) := by omega
  obtain ⟨W, hW⟩ : ∃ W : Nat, 1 + p % 32 = (W : Int) := ⟨(1 + p % 32).toNat, by omega⟩
  have hW1 : 1 ≤ W := by omega
  have hW2 : W ≤ 32 := by omega
  have HW := hid hW
  clear hW
  go_enter Try.func3, Try.ntmps3
  go_wp2_with fail
  refine (awake_true w).mono ?_
  rintro e w1 ⟨rfl, hKp1⟩
  go_wp2_with fail
  refine (SSt.new_any 200 _ 200 W rfl HW.out w1 (by omega) (by omega) hW1 hW2).mono ?_
  rintro e w2 ⟨c, b, bs, rfl, hS, hKp2, hc, hb, hbs⟩
  have hKp := hKp1.trans hKp2
  have hsz := hKp1.size
  have hd : w.heap.size ≤ c ∧ w.heap.size ≤ b ∧ w.heap.size ≤ bs := by omega
  clear hKp1 hKp2 hc hb hbs hsz
  rw [HW.out]
  go_wp2_with fail
  go_loopw [10] (fun iv wr => ∃ i : Nat, i ≤ xs.length ∧ iv = .int .i64 (i : Int) ∧ SSt.Send wr c b bs 200 W 0 (xs.take i) ∧ Kept [] w wr) (fun iv _ => xs.length - (intOf iv).toNat)
  case atStart => exact ⟨0, by omega, rfl, hS, hKp⟩
  case round =>
    clear hS hKp
    obtain ⟨i, h1, rfl, hS, hKp⟩ := hrel
    by_cases hi : i < xs.length
    · obtain ⟨g, off, rfl, hc⟩ := (hs.old hKp (by simp)).cell hi
      obtain ⟨s, hx⟩ := ho _ (List.getElem_mem hi)
      have Hx := hid hx
      rw [hx] at hc
      clear hx
      go_wp2_with fail
      refine (SSt.put_ok hS (by rw [List.length_take]; omega) s).mono ?_
      rintro e w3 ⟨rfl, hS3, hK3⟩
      have hS4 : SSt.Send w3 c b bs 200 W 0 (xs.take (i + 1)) := by rw [List.take_succ_eq_append_getElem hi, Hx.out]; exact hS3
      have hKp4 := hKp.join hK3 (fun i hi hlt => by simp at hi; omega)
      clear hS hKp hS3 hK3 hc
      go_wp2_with fail
      go_roundw
      case rel => exact ⟨i + 1, by omega, by go_num, hS4, hKp4⟩
      case measure => simp [intOf]; omega
    · obtain rfl : i = xs.length := by omega
      rw [List.take_length] at hS
      go_wp2_with fail
      refine (SSt.window_any hS ho).mono ?_
      rintro e w3 ⟨v3, rfl, hO3, hK3⟩
      have hS3 := hS.kept hK3 (by simp) (by simp) (by simp)
      have hKp3 := hKp.trans hK3
      have hlt3 := hS.lt
      obtain ⟨a3, n3, c3, hv3⟩ := hO3.form'
      subst hv3
      have hn3 := hO3.sl.len.1
      have HN3 := hid hn3
      have hn3W : n3 ≤ 32 := by rw [hn3, List.length_take]; omega
      have HO3 := hid hO3
      generalize hB3 : wr.heap.size = B3 at *
      clear hB3 hO3 hS hKp hK3 hn3
      go_wp2_with fail
      go_loopw [13] (fun iv wr => ∃ i : Nat, i ≤ ys.length ∧ iv = .int .i64 (i : Int) ∧ SSt.Send wr c b bs 200 W 0 (xs ++ ys.take i) ∧ OwnL B3 9 wr (.slice a3 n3 c3) (xs.take W) ∧ Kept [] w wr) (fun iv _ => ys.length - (intOf iv).toNat)
      case atStart => exact ⟨0, by omega, rfl, by rw [List.take_zero, List.append_nil]; exact hS3, HO3.out, hKp3⟩
      case round =>
        clear hS3 hKp3
        obtain ⟨i, h2, rfl, hS, hO, hKp⟩ := hrel
        by_cases hi : i < ys.length
        · obtain ⟨g, off, rfl, hc⟩ := (hs1.old hKp (by simp)).cell hi
          obtain ⟨s, hx⟩ := ho1 _ (List.getElem_mem hi)
          have Hx := hid hx
          rw [hx] at hc
          clear hx
          go_wp2_with fail
          refine (SSt.put_ok hS (by rw [List.length_append, List.length_take]; omega) s).mono ?_
          rintro e w4 ⟨rfl, hS4, hK4⟩
          have hS5 : SSt.Send w4 c b bs 200 W 0 (xs ++ ys.take (i + 1)) := by rw [List.take_succ_eq_append_getElem hi, Hx.out, ← List.append_assoc]; exact hS4
          have hO5 := hO.kept hK4 (fun k hk => by have := (hO.lt k hk).1; simp; omega)
          have hKp4 := hKp.join hK4 (fun i hi hlt => by simp at hi; omega)
          clear hS hKp hS4 hK4 hc hO
          go_wp2_with fail
          go_roundw
          case rel => exact ⟨i + 1, by omega, by go_num, hS5, hO5, hKp4⟩
          case measure => simp [intOf]; omega
        · obtain rfl : i = ys.length := by omega
          rw [List.take_length] at hS
          have hoa : ∀ x ∈ xs ++ ys, ∃ s : ByteArray, x = .string s := fun x hx => by
            rcases List.mem_append.1 hx with h | h
            · exact ho x h
            · exact ho1 x h
          go_wp2_with fail
          refine (SSt.window_any hS hoa).mono ?_
          rintro e w4 ⟨v4, rfl, hO4, hK4⟩
          have hO5 := hO.kept hK4 (not_in_nil _)
          have hKp4 := hKp.trans hK4
          obtain ⟨a4, n4, c4, hv4⟩ := hO4.form'
          subst hv4
          have hn4 := hO4.sl.len.1
          have hn34 : n3 ≤ n4 := by
            rw [hn4, HN3.out, List.length_take, List.length_take, List.length_append]; omega
          have hcut := hO4.sl.take hn34
          rw [win_take xs ys W n3 HN3.out] at hcut
          have hc4 := hO4.sl.len.2
          have hn3i : (n3 : Int) ≤ (n4 : Int) := by omega
          have hn3c : (n3 : Int) ≤ (c4 : Int) := by rw [← hn4] at hc4; omega
          have hfin : n3 = W ∨ (¬ n3 = W ∧ n3 = xs.length) := by have := HN3.out; rw [List.length_take] at this; omega
          have HC := hid hcut
          have HO5 := hid hO5
          clear hn4 hcut hO5 hO hS hO4 hKp hK4 hc4
          rcases hfin with hfin | ⟨hfin1, hfin⟩
          · have hfb : ((n3 : Int) == (W : Int)) = true := by simp; omega
            have HF := hid hfin
            clear hfin
            go_wp2_with fail
            refine (same_true _ _ _ _ _ _ _ _ HC.out HO5.out.sl (fun x hx => ho x (List.mem_of_mem_take hx))).mono ?_
            rintro e w5 ⟨rfl, k5, rfl⟩
            go_wp2_with fail
            go_ret
            exact ⟨rfl, hKp4.drewN' k5⟩
          · have hfb : ((n3 : Int) == (W : Int)) = false := by simp; omega
            have hfb2 : ((n3 : Int) == (xs.length : Int)) = true := by simp; omega
            have HF := hid hfin
            clear hfin
            go_wp2_with fail
            refine (same_true _ _ _ _ _ _ _ _ HC.out HO5.out.sl (fun x hx => ho x (List.mem_of_mem_take hx))).mono ?_
            rintro e w5 ⟨rfl, k5, rfl⟩
            go_wp2_with fail
            go_ret
            exact ⟨rfl, hKp4.drewN' k5⟩
end SendStays
end Go.Proofs.Ytnbdodgdabgafaa
