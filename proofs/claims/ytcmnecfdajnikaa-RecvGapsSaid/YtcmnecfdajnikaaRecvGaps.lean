/- RecvGaps answers true: the walk. -/
import Derived.Test.YtcmnecfdajnikaaRecvAwake
namespace Go.Proofs.Ytcmnecfdajnikaa
namespace RecvGaps
open Go.RowKit
set_option linter.unusedVariables false
set_option linter.unusedSimpArgs false

theorem tk1 (K : Nat) (xs : List Value) : ([] : List Value) ++ List.take K (List.drop (0 - 0) (List.take K xs)) = List.take K xs := by
  simp [List.take_take]
theorem tk2 (K : Nat) (xs : List Value) : List.take K xs ++ List.take (xs.length - K) (List.drop (K - K) (List.drop K xs)) = xs := by
  rw [Nat.sub_self, List.drop_zero, List.take_of_length_le (l := List.drop K xs) (by simp), List.take_append_drop]

set_option maxRecDepth 100000 in
set_option maxHeartbeats 2000000 in
theorem walk (w : World) (a : Option Addr) (n cap : Nat) (xs : List Value) (hs : Sl w (.slice a n cap) xs) (ho : ∀ x ∈ xs, ∃ s : ByteArray, x = .string s) (p : Int) (hp : 0 ≤ p ∧ p ≤ 255) :
    Calls Try.prog 3 #[.slice a n cap, .int .u8 p] w fun e w' => e = .returned (.bool true) ∧ Kept [] w w' := by
  obtain ⟨hn, hcap, hmax⟩ := hs.len
  subst hn
  unfold maxLen at hmax
  obtain ⟨p0, p1⟩ := hp
  by_cases hbad : xs.length < 2 ∨ 200 < xs.length
  · rcases hbad with hbad | hbad
    · have hbad' : (xs.length : Int) < 2 := by omega
      go_enter Try.func3, Try.ntmps3
      go_wp2_with fail
      refine (awake_true w).mono ?_
      rintro e w1 ⟨rfl, hK1⟩
      go_wp2_with fail
      refine (awake_true w1).mono ?_
      rintro e w2 ⟨rfl, hK2⟩
      go_wp2_with fail
      go_ret
      exact ⟨rfl, hK1.trans hK2⟩
    · have hbad1 : ¬ (xs.length : Int) < 2 := by omega
      have hbad' : (200 : Int) < (xs.length : Int) := by omega
      go_enter Try.func3, Try.ntmps3
      go_wp2_with fail
      refine (awake_true w).mono ?_
      rintro e w1 ⟨rfl, hK1⟩
      go_wp2_with fail
      refine (awake_true w1).mono ?_
      rintro e w2 ⟨rfl, hK2⟩
      go_wp2_with fail
      go_ret
      exact ⟨rfl, hK1.trans hK2⟩
  have hl1 : ¬ (xs.length : Int) < 2 := by omega
  have hl2 : ¬ (200 : Int) < (xs.length : Int) := by omega
  have q0 : 0 ≤ p % ((xs.length : Int) - 1) := Int.emod_nonneg p (by omega)
  have q1 : p % ((xs.length : Int) - 1) < (xs.length : Int) - 1 := Int.emod_lt_of_pos p (by omega)
  obtain ⟨K, hK⟩ : ∃ K : Nat, 1 + p % ((xs.length : Int) - 1) = (K : Int) := ⟨(1 + p % ((xs.length : Int) - 1)).toNat, by omega⟩
  have hK1 : 1 ≤ K := by omega
  have hK2 : K < xs.length := by omega
  have hKc : ¬ cap = K := by omega
  have HK := hid hK
  clear hK hbad
  obtain ⟨g, off, rfl, hc0⟩ := hs.cell (i := 0) (by omega)
  clear hc0
  have hg : g < w.heap.size := hs.lt (by omega) g rfl
  go_enter Try.func3, Try.ntmps3
  go_wp2_with fail
  refine (awake_true w).mono ?_
  rintro e w1 ⟨rfl, hKp1⟩
  go_wp2_with fail
  refine (CSt.new_any 256 256 rfl w1 (by omega) (by omega)).mono ?_
  rintro e w2 ⟨c, b, bs, rfl, hR, hKp2, hc, hb, hbs⟩
  have hKp := hKp1.trans hKp2
  have hsz := hKp1.size
  have hd : w.heap.size ≤ c ∧ w.heap.size ≤ b ∧ w.heap.size ≤ bs := by omega
  clear hKp1 hKp2 hc hb hbs hsz
  have hni : ∀ o n c', NotIn [c, b, bs] (.slice (some ⟨g, o, none⟩) n c') := fun o n c' k hk => by simp [Value.ownBlock] at hk; simp; omega
  have HNI := hid hni
  clear hni
  go_wp2_with fail
  rw [HK.out]
  refine (CSt.offer_gap hR (K : Int) (by omega) _ _ _).mono ?_
  rintro e w3 ⟨rfl, rfl⟩
  have hs2 := hs.old hKp (by simp)
  go_wp2_with fail
  refine (CSt.offer_at hR (by omega) 0 0 rfl (by omega) _ _ _ _ (hs2.take (k := K) (by omega)) (fun x hx => ho x (List.mem_of_mem_take hx)) (HNI.out _ _ _)).mono ?_
  rintro e w3 ⟨k, hk, rfl, hR3, hK3⟩
  obtain rfl : K = k := by simp only [List.length_take, List.length_nil] at hk; omega
  have hKp3 := hKp.join hK3 (fun i hi hlt => by simp at hi; omega)
  have hs3 := hs.old hKp3 (by simp)
  rw [tk1, Nat.zero_add] at hR3
  clear hk hR hKp hs2 hK3
  go_wp2_with fail
  refine (CSt.offer_at hR3 (by omega) (K : Int) K rfl (by omega) _ _ _ _ (hs3.drop (k := K) (by omega)) (fun x hx => ho x (List.mem_of_mem_drop hx)) (HNI.out _ _ _)).mono ?_
  rintro e w4 ⟨k, hk, rfl, hR4, hK4⟩
  obtain rfl : k = xs.length - K := by simp only [List.length_drop, List.length_take] at hk; omega
  have hKp4 := hKp3.join hK4 (fun i hi hlt => by simp at hi; omega)
  rw [tk2, show K + (xs.length - K) = xs.length by omega] at hR4
  have ec : ((xs.length - K : Nat) : Int) = (xs.length : Int) - (K : Int) := by omega
  rw [ec]
  clear hk ec hR3 hKp3 hs3 hK4
  go_wp2_with fail
  go_loopw [14] (fun iv wr => ∃ i : Nat, i ≤ xs.length ∧ iv = .int .i64 (i : Int) ∧ CSt.Recv wr c b bs 256 xs.length (xs.drop i) ∧ Kept [] w wr) (fun iv _ => xs.length - (intOf iv).toNat)
  case atStart => exact ⟨0, by omega, rfl, by rw [List.drop_zero]; exact hR4, hKp4⟩
  case round =>
    clear hR4 hKp4
    obtain ⟨i, h1, rfl, hR, hKp⟩ := hrel
    by_cases hi : i < xs.length
    · have hdr : xs.drop i = xs[i] :: xs.drop (i + 1) := List.drop_eq_getElem_cons (by omega)
      rw [hdr] at hR
      clear hdr
      obtain ⟨s, hx⟩ := ho _ (List.getElem_mem hi)
      rw [hx] at hR
      have Hx := hid hx
      clear hx
      go_wp2_with fail
      refine (CSt.take_ok hR rfl).mono ?_
      rintro e w3 ⟨rfl, hR3, hK3⟩
      have hKp3 := hKp.join hK3 (fun i hi hlt => by simp at hi; omega)
      obtain ⟨g', off', he, hc⟩ := (hs.old hKp3 (by simp)).cell hi
      cases he
      rw [Hx.out] at hc
      clear hR hKp hK3
      go_wp2_with fail
      go_roundw
      case rel => exact ⟨i + 1, by omega, by go_num, hR3, hKp3⟩
      case measure => simp [intOf]; omega
    · go_wp2_with fail
      refine (CSt.next_any hR).mono ?_
      rintro e w3 ⟨rfl, rfl⟩
      go_wp2_with fail
      go_ret
      exact ⟨rfl, hKp⟩
end RecvGaps
end Go.Proofs.Ytcmnecfdajnikaa
