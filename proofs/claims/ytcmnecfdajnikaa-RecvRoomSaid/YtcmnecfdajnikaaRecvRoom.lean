/- RecvRoom answers true: the walk. -/
import Derived.Test.YtcmnecfdajnikaaRecvAwake
namespace Go.Proofs.Ytcmnecfdajnikaa
namespace RecvRoom
open Go.RowKit
set_option linter.unusedVariables false
set_option linter.unusedSimpArgs false

theorem seg_len {xs : List Value} {G N : Nat} (h : N ≤ xs.length) : ((xs.drop G).take (N - G)).length = N - G := by simp; omega
theorem seg_cons {xs : List Value} {G N : Nat} (h : N ≤ xs.length) (hG : G < N) : (xs.drop G).take (N - G) = xs[G] :: (xs.drop (G + 1)).take (N - (G + 1)) := by
  rw [List.drop_eq_getElem_cons (by omega), show N - G = (N - (G + 1)) + 1 by omega, List.take_succ_cons]

set_option maxRecDepth 100000 in
set_option maxHeartbeats 2000000 in
theorem walk (w : World) (a : Option Addr) (n cap : Nat) (xs : List Value) (hs : Sl w (.slice a n cap) xs) (ho : ∀ x ∈ xs, ∃ s : ByteArray, x = .string s) (p : Int) (hp : 0 ≤ p ∧ p ≤ 255) :
    Calls Try.prog 4 #[.slice a n cap, .int .u8 p] w fun e w' => e = .returned (.bool true) ∧ Kept [] w w' := by
  obtain ⟨hn, hcap, hmax⟩ := hs.len
  subst hn
  unfold maxLen at hmax
  obtain ⟨p0, p1⟩ := hp
  by_cases hbad : 100 < xs.length
  · have hbad' : (100 : Int) < (xs.length : Int) := by omega
    go_enter Try.func4, Try.ntmps4
    go_wp2_with fail
    refine (awake_true w).mono ?_
    rintro e w1 ⟨rfl, hK1⟩
    go_wp2_with fail
    refine (awake_true w1).mono ?_
    rintro e w2 ⟨rfl, hK2⟩
    go_wp2_with fail
    go_ret
    exact ⟨rfl, hK1.trans hK2⟩
  have hl2 : ¬ (100 : Int) < (xs.length : Int) := by omega
  obtain ⟨M, hM⟩ : ∃ M : Nat, 1 + p % 20 = (M : Int) := ⟨(1 + p % 20).toNat, by omega⟩
  have hM1 : 1 ≤ M := by omega
  have hM2 : M ≤ 20 := by omega
  have HM := hid hM
  clear hM
  have hni : ∀ c b bs, w.heap.size ≤ c → w.heap.size ≤ b → w.heap.size ≤ bs → 0 < xs.length → NotIn [c, b, bs] (.slice a xs.length cap) := fun c b bs h1 h2 h3 hp k hk => by
    have := hs.lt hp k hk
    simp; omega
  have HNI := hid hni
  clear hni
  go_enter Try.func4, Try.ntmps4
  go_wp2_with fail
  refine (awake_true w).mono ?_
  rintro e w1 ⟨rfl, hKp1⟩
  go_wp2_with fail
  refine (CSt.new_any _ M HM.out w1 (by omega) (by omega)).mono ?_
  rintro e w2 ⟨c, b, bs, rfl, hR, hKp2, hc, hb, hbs⟩
  have hKp := hKp1.trans hKp2
  have hsz := hKp1.size
  have hd : w.heap.size ≤ c ∧ w.heap.size ≤ b ∧ w.heap.size ≤ bs := by omega
  clear hKp1 hKp2 hc hb hbs hsz
  rw [HM.out]
  go_wp2_with fail
  go_loopw [8, 9] (fun gv kv wr => ∃ k G : Nat, k ≤ G ∧ G ≤ xs.length ∧ gv = .int .i64 (G : Int) ∧ kv = .int .i64 (k : Int) ∧ CSt.Recv wr c b bs M G [] ∧ Kept [] w wr) (fun _ kv _ => 200 - (intOf kv).toNat)
  case atStart => exact ⟨0, 0, by omega, by omega, rfl, rfl, hR, hKp⟩
  case round =>
    clear hR hKp
    obtain ⟨k, G, h1, h2, rfl, rfl, hR, hKp⟩ := hrel
    by_cases hG : G < xs.length
    · have hk200 : (k : Int) < 200 := by omega
      have hk200' : k < 200 := by omega
      go_wp2_with fail
      refine (CSt.offer_at hR (by omega) 0 0 rfl (by omega) _ _ _ _ (hs.old hKp (by simp)) ho (HNI.out c b bs hd.1 hd.2.1 hd.2.2 (by omega))).mono ?_
      rintro e w3 ⟨q, hq, rfl, hR3, hK3⟩
      obtain ⟨N, hN⟩ : ∃ N, N = G + q := ⟨_, rfl⟩
      have hq' : q = min (xs.length - G) M := by simpa using hq
      have hN1 : N ≤ xs.length := by omega
      have hqN : q = N - G := by omega
      have hGN : G < N := by omega
      rw [← hN, hqN, List.nil_append, Nat.sub_zero] at hR3
      have hKp3 := hKp.join hK3 (fun i hi hlt => by simp at hi; omega)
      have hqM : ¬ (M : Int) < (q : Int) := by omega
      have hqM2 : ¬ M < q := by omega
      have hcase : (M < xs.length - G ∧ q = M) ∨ (¬ M < xs.length - G ∧ q = xs.length - G) := by omega
      have Hq := hid hq'
      have HqN := hid hqN
      have HN := hid hN
      clear hq hq' hqN hN hR hKp hK3
      rcases hcase with ⟨hcase, hqe⟩ | ⟨hcase, hqe⟩
      · have hcase' : (M : Int) < (xs.length : Int) - (G : Int) := by omega
        have Hqe := hid hqe
        clear hqe
        go_wp2_with fail
        refine (CSt.len_any hR3).mono ?_
        rintro e w4 ⟨rfl, rfl⟩
        rw [seg_len hN1, show N - G = M by have := HqN.out; have := Hqe.out; omega]
        go_wp2_with fail
        obtain ⟨wo, rfl⟩ : ∃ wo : World, wo = w3 := ⟨_, rfl⟩
        go_loopw [8] (fun gv wr => ∃ G2 : Nat, G ≤ G2 ∧ G2 ≤ N ∧ gv = .int .i64 (G2 : Int) ∧ CSt.Recv wr c b bs M N ((xs.drop G2).take (N - G2)) ∧ Kept [] w wr) (fun gv _ => N - (intOf gv).toNat)
        case atStart => exact ⟨G, by omega, by omega, rfl, hR3, hKp3⟩
        case round =>
          clear hR3 hKp3
          obtain ⟨G2, h3, h4, rfl, hR, hKp⟩ := hrel
          by_cases hG2 : G2 < N
          · have hpos : (0 : Int) < ((N - G2 : Nat) : Int) := by omega
            have hpos' : 0 < N - G2 := by omega
            obtain ⟨s, hx⟩ := ho _ (List.getElem_mem (show G2 < xs.length by omega))
            go_wp2_with fail
            refine (CSt.len_any hR).mono ?_
            rintro e w4 ⟨rfl, rfl⟩
            rw [seg_len hN1]
            rw [seg_cons hN1 hG2, hx] at hR
            have Hx := hid hx
            clear hx
            go_wp2_with fail
            refine (CSt.take_ok hR rfl).mono ?_
            rintro e w4 ⟨rfl, hR4, hK4⟩
            have hKp4 := hKp.join hK4 (fun i hi hlt => by simp at hi; omega)
            obtain ⟨g, off, rfl, hc⟩ := (hs.old hKp4 (by simp)).cell (show G2 < xs.length by omega)
            rw [Hx.out] at hc
            have hG2x : G2 < xs.length := by omega
            clear hR hKp hK4
            go_wp2_with fail
            go_roundw
            case rel => exact ⟨G2 + 1, by omega, by omega, by go_num, hR4, hKp4⟩
            case measure => simp [intOf]; omega
          · obtain rfl : G2 = N := by omega
            rw [Nat.sub_self, List.take_zero] at hR
            go_wp2_with fail
            refine (CSt.len_any hR).mono ?_
            rintro e w4 ⟨rfl, rfl⟩
            go_wp2_with fail
            go_roundw
            case rel => exact ⟨k + 1, G2, by omega, by omega, rfl, by go_num, hR, hKp⟩
            case measure => simp [intOf]; omega
      · have hcase' : ¬ (M : Int) < (xs.length : Int) - (G : Int) := by omega
        have Hqe := hid hqe
        clear hqe
        go_wp2_with fail
        refine (CSt.len_any hR3).mono ?_
        rintro e w4 ⟨rfl, rfl⟩
        rw [seg_len hN1, show ((N - G : Nat) : Int) = (xs.length : Int) - (G : Int) by have := HqN.out; have := Hqe.out; omega]
        go_wp2_with fail
        obtain ⟨wo, rfl⟩ : ∃ wo : World, wo = w3 := ⟨_, rfl⟩
        go_loopw [8] (fun gv wr => ∃ G2 : Nat, G ≤ G2 ∧ G2 ≤ N ∧ gv = .int .i64 (G2 : Int) ∧ CSt.Recv wr c b bs M N ((xs.drop G2).take (N - G2)) ∧ Kept [] w wr) (fun gv _ => N - (intOf gv).toNat)
        case atStart => exact ⟨G, by omega, by omega, rfl, hR3, hKp3⟩
        case round =>
          clear hR3 hKp3
          obtain ⟨G2, h3, h4, rfl, hR, hKp⟩ := hrel
          by_cases hG2 : G2 < N
          · have hpos : (0 : Int) < ((N - G2 : Nat) : Int) := by omega
            have hpos' : 0 < N - G2 := by omega
            obtain ⟨s, hx⟩ := ho _ (List.getElem_mem (show G2 < xs.length by omega))
            go_wp2_with fail
            refine (CSt.len_any hR).mono ?_
            rintro e w4 ⟨rfl, rfl⟩
            rw [seg_len hN1]
            rw [seg_cons hN1 hG2, hx] at hR
            have Hx := hid hx
            clear hx
            go_wp2_with fail
            refine (CSt.take_ok hR rfl).mono ?_
            rintro e w4 ⟨rfl, hR4, hK4⟩
            have hKp4 := hKp.join hK4 (fun i hi hlt => by simp at hi; omega)
            obtain ⟨g, off, rfl, hc⟩ := (hs.old hKp4 (by simp)).cell (show G2 < xs.length by omega)
            rw [Hx.out] at hc
            have hG2x : G2 < xs.length := by omega
            clear hR hKp hK4
            go_wp2_with fail
            go_roundw
            case rel => exact ⟨G2 + 1, by omega, by omega, by go_num, hR4, hKp4⟩
            case measure => simp [intOf]; omega
          · obtain rfl : G2 = N := by omega
            rw [Nat.sub_self, List.take_zero] at hR
            go_wp2_with fail
            refine (CSt.len_any hR).mono ?_
            rintro e w4 ⟨rfl, rfl⟩
            go_wp2_with fail
            go_roundw
            case rel => exact ⟨k + 1, G2, by omega, by omega, rfl, by go_num, hR, hKp⟩
            case measure => simp [intOf]; omega
    · have hG' : ¬ (G : Int) < (xs.length : Int) := by omega
      go_wp2_with fail
      go_ret
      exact ⟨ret_bool (by simp; omega), hKp⟩
end RecvRoom
end Go.Proofs.Ytcmnecfdajnikaa
