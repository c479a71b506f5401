/- RecvTwice answers true: the walk. -/
import Derived.Test.YtcmnecfdajnikaaRecvAwake
namespace Go.Proofs.Ytcmnecfdajnikaa
namespace RecvTwice
open Go.RowKit
set_option linter.unusedVariables false
set_option linter.unusedSimpArgs false

theorem piece {xs : List Value} {A B N q : Nat} (hA : A ≤ N) (hNB : N < B) (hB : B ≤ xs.length) (hq : q = min (((xs.take B).drop A).length - (N - A)) (256 - (xs.take N).length)) (h200 : xs.length ≤ 200) :
    q = B - N ∧ xs.take N ++ (((xs.take B).drop A).drop (N - A)).take q = xs.take B := by
  have e1 : ((xs.take B).drop A).length = B - A := by rw [List.length_drop, List.length_take]; omega
  have e2 : (xs.take N).length = N := by rw [List.length_take]; omega
  rw [e1, e2] at hq
  have hq' : q = B - N := by omega
  refine ⟨hq', ?_⟩
  rw [List.drop_drop, show A + (N - A) = N by omega, List.take_of_length_le (l := List.drop N (List.take B xs)) (by rw [List.length_drop, List.length_take]; omega)]
  have e3 : xs.take N = (xs.take B).take N := by rw [List.take_take]; congr 1; omega
  rw [e3, List.take_append_drop]

set_option maxRecDepth 100000 in
set_option maxHeartbeats 4000000 in
theorem walk (w : World) (a : Option Addr) (n cap : Nat) (xs : List Value) (hs : Sl w (.slice a n cap) xs) (ho : ∀ x ∈ xs, ∃ s : ByteArray, x = .string s)
    (a1 : Option Addr) (n1 cap1 : Nat) (cs : List Value) (hs1 : Sl w (.slice a1 n1 cap1) cs) (ho1 : ∀ x ∈ cs, ∃ n : Int, x = .int .u8 n ∧ (Lit.int .u8 n).wf = true) :
    Calls Try.prog 5 #[.slice a n cap, .slice a1 n1 cap1] w fun e w' => e = .returned (.bool true) ∧ Kept [] w w' := by
  obtain ⟨hn, hcap, hmax⟩ := hs.len
  subst hn
  obtain ⟨hn1, hcap1, hmax1⟩ := hs1.len
  subst hn1
  unfold maxLen at hmax hmax1
  by_cases hbad : 200 < xs.length
  · have hbad' : (200 : Int) < (xs.length : Int) := by omega
    go_enter Try.func5, Try.ntmps5
    go_wp2_with fail
    refine (awake_true w).mono ?_
    rintro e w1 ⟨rfl, hK1⟩
    go_wp2_with fail
    refine (awake_true w1).mono ?_
    rintro e w2 ⟨rfl, hK2⟩
    go_wp2_with fail
    go_ret
    exact ⟨rfl, hK1.trans hK2⟩
  have hl2 : ¬ (200 : Int) < (xs.length : Int) := by omega
  go_enter Try.func5, Try.ntmps5
  go_wp2_with fail
  refine (awake_true w).mono ?_
  rintro e w1 ⟨rfl, hKp1⟩
  go_wp2_with fail
  refine (CSt.new_any 256 256 rfl w1 (by omega) (by omega)).mono ?_
  rintro e w2 ⟨c, b, bs, rfl, hR, hKp2, hc, hb, hbs⟩
  have hKp := hKp1.trans hKp2
  have hsz := hKp1.size
  have hd : w.heap.size ≤ c ∧ w.heap.size ≤ b ∧ w.heap.size ≤ bs := by omega
  clear hKp1 hKp2 hc hb hbs hsz
  go_wp2_with fail
  go_loopw [7] (fun iv wr => ∃ i Nx : Nat, i ≤ 101 ∧ Nx ≤ xs.length ∧ iv = .int .i64 (i : Int) ∧ CSt.Recv wr c b bs 256 Nx (xs.take Nx) ∧ Kept [] w wr) (fun iv _ => 200 - (intOf iv).toNat)
  case atStart => exact ⟨0, 0, by omega, by omega, rfl, by simpa using hR, hKp⟩
  case round =>
    clear hR hKp
    obtain ⟨i, Nx, h1, h2, rfl, hR, hKp⟩ := hrel
    by_cases hi : i + 1 < cs.length ∧ i < 100
    · obtain ⟨hi1, hi2⟩ := hi
      have hi1' : (i : Int) + 1 < (cs.length : Int) := by omega
      have hi2' : (i : Int) < 100 := by omega
      have hi0' : (i : Int) < (cs.length : Int) := by omega
      obtain ⟨g1, off1, rfl, hc1⟩ := (hs1.old hKp (by simp)).cell (show i < cs.length by omega)
      obtain ⟨g1', off1', he, hc2⟩ := (hs1.old hKp (by simp)).cell hi1
      cases he
      obtain ⟨y1, hy1, wy1⟩ := ho1 _ (List.getElem_mem (show i < cs.length by omega))
      obtain ⟨y2, hy2, wy2⟩ := ho1 _ (List.getElem_mem hi1)
      rw [hy1] at hc1
      rw [hy2] at hc2
      obtain ⟨u1, v1⟩ := bounds_u8 wy1
      obtain ⟨u2, v2⟩ := bounds_u8 wy2
      clear hy1 hy2 wy1 wy2
      obtain ⟨A0, hA0⟩ : ∃ A : Nat, y1 % ((xs.length : Int) + 1) = (A : Int) := ⟨(y1 % ((xs.length : Int) + 1)).toNat, by have := Int.emod_nonneg y1 (b := (xs.length : Int) + 1) (by omega); omega⟩
      obtain ⟨B0, hB0⟩ : ∃ B : Nat, y2 % ((xs.length : Int) + 1) = (B : Int) := ⟨(y2 % ((xs.length : Int) + 1)).toNat, by have := Int.emod_nonneg y2 (b := (xs.length : Int) + 1) (by omega); omega⟩
      have hAl : A0 ≤ xs.length := by have := Int.emod_lt_of_pos y1 (b := (xs.length : Int) + 1) (by omega); omega
      have hBl : B0 ≤ xs.length := by have := Int.emod_lt_of_pos y2 (b := (xs.length : Int) + 1) (by omega); omega
      by_cases hsw : B0 < A0
      · have hsw' : (B0 : Int) < (A0 : Int) := by omega
        go_wp2_with fail
        refine (CSt.next_any hR).mono ?_
        rintro e w3 ⟨rfl, rfl⟩
        by_cases hAN : Nx < B0
        · have hAN' : (Nx : Int) < (B0 : Int) := by omega
          have hcA : ¬ B0 = cap := by omega
          all_goals
            try have hcA2 : ¬ cap = B0 := by omega
            go_wp2_with fail
            refine (CSt.offer_gap hR _ (by omega) _ _ _).mono ?_
            rintro e w4 ⟨rfl, rfl⟩
            go_wp2_with fail
            go_roundw
            case rel => exact ⟨i + 2, Nx, by omega, by omega, by go_num, hR, hKp⟩
            case measure => simp [intOf]; omega
        · have hAN' : ¬ (Nx : Int) < (B0 : Int) := by omega
          by_cases hBN : Nx < A0
          · have hBN' : (Nx : Int) < (A0 : Int) := by omega
            have hcA : ¬ cap = B0 := by omega
            obtain ⟨g, off, rfl, hc0⟩ := hs.cell (i := 0) (by omega)
            clear hc0
            have hg : g < w.heap.size := hs.lt (by omega) g rfl
            have hsp := ((hs.old hKp (by simp)).take (k := A0) (by omega)).drop (k := B0) (by omega)
            go_wp2_with fail
            refine (CSt.offer_at hR (by omega) (B0 : Int) B0 rfl (by omega) _ _ _ _ hsp (fun x hx => ho x (List.mem_of_mem_take (List.mem_of_mem_drop hx))) (fun k hk => by simp [Value.ownBlock] at hk; simp; omega)).mono ?_
            rintro e w4 ⟨q, hq, rfl, hR4, hK4⟩
            obtain ⟨hq2, hq3⟩ := piece (by omega) hBN (by omega) hq (by omega)
            rw [hq3, show Nx + q = A0 by omega] at hR4
            have hKp4 := hKp.join hK4 (fun i hi hlt => by simp at hi; omega)
            have hqi : (q : Int) = (A0 : Int) - (Nx : Int) := by omega
            rw [hqi]
            clear hq hq2 hq3 hqi hR hKp hK4 hsp
            go_wp2_with fail
            refine (CSt.next_any hR4).mono ?_
            rintro e w5 ⟨rfl, rfl⟩
            go_wp2_with fail
            go_roundw
            case rel => exact ⟨i + 2, A0, by omega, by omega, by go_num, hR4, hKp4⟩
            case measure => simp [intOf]; omega
          · have hBN' : ¬ (Nx : Int) < (A0 : Int) := by omega
            have hcA : ¬ B0 = cap := by omega
            all_goals
              try have hcA2 : ¬ cap = B0 := by omega
              go_wp2_with fail
              refine (CSt.offer_past hR (by omega) _ (by omega) _ _ _ (by omega) (by omega)).mono ?_
              rintro e w4 ⟨rfl, rfl⟩
              go_wp2_with fail
              refine (CSt.next_any hR).mono ?_
              rintro e w5 ⟨rfl, rfl⟩
              go_wp2_with fail
              go_roundw
              case rel => exact ⟨i + 2, Nx, by omega, by omega, by go_num, hR, hKp⟩
              case measure => simp [intOf]; omega
      · have hsw' : ¬ (B0 : Int) < (A0 : Int) := by omega
        go_wp2_with fail
        refine (CSt.next_any hR).mono ?_
        rintro e w3 ⟨rfl, rfl⟩
        by_cases hAN : Nx < A0
        · have hAN' : (Nx : Int) < (A0 : Int) := by omega
          by_cases hcA : A0 = cap
          all_goals
            try have hcA2 : ¬ cap = A0 := by omega
            go_wp2_with fail
            refine (CSt.offer_gap hR _ (by omega) _ _ _).mono ?_
            rintro e w4 ⟨rfl, rfl⟩
            go_wp2_with fail
            go_roundw
            case rel => exact ⟨i + 2, Nx, by omega, by omega, by go_num, hR, hKp⟩
            case measure => simp [intOf]; omega
        · have hAN' : ¬ (Nx : Int) < (A0 : Int) := by omega
          by_cases hBN : Nx < B0
          · have hBN' : (Nx : Int) < (B0 : Int) := by omega
            have hcA : ¬ cap = A0 := by omega
            obtain ⟨g, off, rfl, hc0⟩ := hs.cell (i := 0) (by omega)
            clear hc0
            have hg : g < w.heap.size := hs.lt (by omega) g rfl
            have hsp := ((hs.old hKp (by simp)).take (k := B0) (by omega)).drop (k := A0) (by omega)
            go_wp2_with fail
            refine (CSt.offer_at hR (by omega) (A0 : Int) A0 rfl (by omega) _ _ _ _ hsp (fun x hx => ho x (List.mem_of_mem_take (List.mem_of_mem_drop hx))) (fun k hk => by simp [Value.ownBlock] at hk; simp; omega)).mono ?_
            rintro e w4 ⟨q, hq, rfl, hR4, hK4⟩
            obtain ⟨hq2, hq3⟩ := piece (by omega) hBN (by omega) hq (by omega)
            rw [hq3, show Nx + q = B0 by omega] at hR4
            have hKp4 := hKp.join hK4 (fun i hi hlt => by simp at hi; omega)
            have hqi : (q : Int) = (B0 : Int) - (Nx : Int) := by omega
            rw [hqi]
            clear hq hq2 hq3 hqi hR hKp hK4 hsp
            go_wp2_with fail
            refine (CSt.next_any hR4).mono ?_
            rintro e w5 ⟨rfl, rfl⟩
            go_wp2_with fail
            go_roundw
            case rel => exact ⟨i + 2, B0, by omega, by omega, by go_num, hR4, hKp4⟩
            case measure => simp [intOf]; omega
          · have hBN' : ¬ (Nx : Int) < (B0 : Int) := by omega
            by_cases hcA : A0 = cap
            all_goals
              try have hcA2 : ¬ cap = A0 := by omega
              go_wp2_with fail
              refine (CSt.offer_past hR (by omega) _ (by omega) _ _ _ (by omega) (by omega)).mono ?_
              rintro e w4 ⟨rfl, rfl⟩
              go_wp2_with fail
              refine (CSt.next_any hR).mono ?_
              rintro e w5 ⟨rfl, rfl⟩
              go_wp2_with fail
              go_roundw
              case rel => exact ⟨i + 2, Nx, by omega, by omega, by go_num, hR, hKp⟩
              case measure => simp [intOf]; omega
    · have hex : ¬ (i : Int) + 1 < (cs.length : Int) ∨ ((i : Int) + 1 < (cs.length : Int) ∧ ¬ (i : Int) < 100) := by omega
      rcases hex with hex | ⟨hex1, hex⟩
      · skip
        go_wp2_with fail
        obtain ⟨wo, rfl⟩ : ∃ wo : World, wo = wr := ⟨_, rfl⟩
        go_loopw [14] (fun iv wr => ∃ j : Nat, j ≤ Nx ∧ iv = .int .i64 (j : Int) ∧ CSt.Recv wr c b bs 256 Nx (xs.take Nx) ∧ Kept [] w wr) (fun iv _ => Nx - (intOf iv).toNat)
        case atStart => exact ⟨0, by omega, rfl, hR, hKp⟩
        case round =>
          clear hR hKp
          obtain ⟨j, h3, rfl, hR, hKp⟩ := hrel
          have htl : (xs.take Nx).length = Nx := by simp; omega
          by_cases hj : j < Nx
          · have hj' : (j : Int) < (Nx : Int) := by omega
            have hjx : ¬ (xs.length : Int) ≤ (j : Int) := by omega
            go_wp2_with fail
            refine (CSt.len_any hR).mono ?_
            rintro e w5 ⟨rfl, rfl⟩
            rw [htl]
            clear htl
            go_wp2_with fail
            go_roundw
            case rel => exact ⟨j + 1, by omega, by go_num, hR, hKp⟩
            case measure => simp [intOf]; omega
          · have hj' : ¬ (j : Int) < (Nx : Int) := by omega
            go_wp2_with fail
            refine (CSt.len_any hR).mono ?_
            rintro e w5 ⟨rfl, rfl⟩
            rw [htl]
            clear htl
            go_wp2_with fail
            refine (CSt.next_any hR).mono ?_
            rintro e w5 ⟨rfl, rfl⟩
            go_wp2_with fail
            go_loopw [16] (fun iv wr => ∃ t : Nat, t ≤ Nx ∧ iv = .int .i64 (t : Int) ∧ CSt.Recv wr c b bs 256 Nx ((xs.take Nx).drop t) ∧ Kept [] w wr) (fun iv _ => Nx - (intOf iv).toNat)
            case atStart => exact ⟨0, by omega, rfl, hR, hKp⟩
            case round =>
              clear hR hKp
              obtain ⟨t, h4, rfl, hR, hKp⟩ := hrel
              by_cases ht : t < Nx
              · have hcons : (xs.take Nx).drop t = xs[t] :: (xs.take Nx).drop (t + 1) := by
                  rw [List.drop_eq_getElem_cons (by simp; omega)]; simp
                rw [hcons] at hR
                obtain ⟨s, hx⟩ := ho _ (List.getElem_mem (show t < xs.length by omega))
                rw [hx] at hR
                have Hx := hid hx
                clear hx hcons
                go_wp2_with fail
                refine (CSt.take_ok hR rfl).mono ?_
                rintro e w5 ⟨rfl, hR5, hK5⟩
                have hKp5 := hKp.join hK5 (fun i hi hlt => by simp at hi; omega)
                obtain ⟨g, off, rfl, hc⟩ := (hs.old hKp5 (by simp)).cell (show t < xs.length by omega)
                rw [Hx.out] at hc
                have htx : t < xs.length := by omega
                clear hR hKp hK5
                go_wp2_with fail
                go_roundw
                case rel => exact ⟨t + 1, by omega, by go_num, hR5, hKp5⟩
                case measure => simp [intOf]; omega
              · obtain rfl : t = Nx := by omega
                rw [List.drop_of_length_le (by simp; omega)] at hR
                go_wp2_with fail
                refine (CSt.len_any hR).mono ?_
                rintro e w5 ⟨rfl, rfl⟩
                go_wp2_with fail
                go_ret
                exact ⟨rfl, hKp⟩
      · skip
        go_wp2_with fail
        obtain ⟨wo, rfl⟩ : ∃ wo : World, wo = wr := ⟨_, rfl⟩
        go_loopw [14] (fun iv wr => ∃ j : Nat, j ≤ Nx ∧ iv = .int .i64 (j : Int) ∧ CSt.Recv wr c b bs 256 Nx (xs.take Nx) ∧ Kept [] w wr) (fun iv _ => Nx - (intOf iv).toNat)
        case atStart => exact ⟨0, by omega, rfl, hR, hKp⟩
        case round =>
          clear hR hKp
          obtain ⟨j, h3, rfl, hR, hKp⟩ := hrel
          have htl : (xs.take Nx).length = Nx := by simp; omega
          by_cases hj : j < Nx
          · have hj' : (j : Int) < (Nx : Int) := by omega
            have hjx : ¬ (xs.length : Int) ≤ (j : Int) := by omega
            go_wp2_with fail
            refine (CSt.len_any hR).mono ?_
            rintro e w5 ⟨rfl, rfl⟩
            rw [htl]
            clear htl
            go_wp2_with fail
            go_roundw
            case rel => exact ⟨j + 1, by omega, by go_num, hR, hKp⟩
            case measure => simp [intOf]; omega
          · have hj' : ¬ (j : Int) < (Nx : Int) := by omega
            go_wp2_with fail
            refine (CSt.len_any hR).mono ?_
            rintro e w5 ⟨rfl, rfl⟩
            rw [htl]
            clear htl
            go_wp2_with fail
            refine (CSt.next_any hR).mono ?_
            rintro e w5 ⟨rfl, rfl⟩
            go_wp2_with fail
            go_loopw [16] (fun iv wr => ∃ t : Nat, t ≤ Nx ∧ iv = .int .i64 (t : Int) ∧ CSt.Recv wr c b bs 256 Nx ((xs.take Nx).drop t) ∧ Kept [] w wr) (fun iv _ => Nx - (intOf iv).toNat)
            case atStart => exact ⟨0, by omega, rfl, hR, hKp⟩
            case round =>
              clear hR hKp
              obtain ⟨t, h4, rfl, hR, hKp⟩ := hrel
              by_cases ht : t < Nx
              · have hcons : (xs.take Nx).drop t = xs[t] :: (xs.take Nx).drop (t + 1) := by
                  rw [List.drop_eq_getElem_cons (by simp; omega)]; simp
                rw [hcons] at hR
                obtain ⟨s, hx⟩ := ho _ (List.getElem_mem (show t < xs.length by omega))
                rw [hx] at hR
                have Hx := hid hx
                clear hx hcons
                go_wp2_with fail
                refine (CSt.take_ok hR rfl).mono ?_
                rintro e w5 ⟨rfl, hR5, hK5⟩
                have hKp5 := hKp.join hK5 (fun i hi hlt => by simp at hi; omega)
                obtain ⟨g, off, rfl, hc⟩ := (hs.old hKp5 (by simp)).cell (show t < xs.length by omega)
                rw [Hx.out] at hc
                have htx : t < xs.length := by omega
                clear hR hKp hK5
                go_wp2_with fail
                go_roundw
                case rel => exact ⟨t + 1, by omega, by go_num, hR5, hKp5⟩
                case measure => simp [intOf]; omega
              · obtain rfl : t = Nx := by omega
                rw [List.drop_of_length_le (by simp; omega)] at hR
                go_wp2_with fail
                refine (CSt.len_any hR).mono ?_
                rintro e w5 ⟨rfl, rfl⟩
                go_wp2_with fail
                go_ret
                exact ⟨rfl, hKp⟩
end RecvTwice
end Go.Proofs.Ytcmnecfdajnikaa
