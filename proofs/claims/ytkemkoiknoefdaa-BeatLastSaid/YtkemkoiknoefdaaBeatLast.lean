/- BeatLast answers true: the walk. -/
import Derived.Test.YtkemkoiknoefdaaBeatOwn
namespace Go.Proofs.Ytkemkoiknoefdaa
namespace BeatLast
open Go.RowKit
set_option linter.unusedVariables false
set_option linter.unusedSimpArgs false

/-- Who was heard of: node 0 alone, at x. -/
def HO (x : Nat) : Nat → Nat := upd (fun _ => 0) 0 x
theorem HO_zero : HO 0 = fun _ => 0 := by funext j; unfold HO upd; split <;> rfl
theorem HO_heard (x y : Nat) : upd (HO x) 0 y = HO y := by funext j; unfold HO upd; split <;> rfl
theorem bits3 : ∀ j, j < 16 → (decide (j = 1) || decide (j = 0)) = Nat.testBit 3 j := by decide
theorem bits2 : ∀ j, j < 16 → (decide (j = 1) || false) = Nat.testBit 2 j := by decide
theorem est3 {w : World} {bb beat miss now n D e x : Nat} {C : Nat → Prop} (h : BT w bb C 2 1 beat miss now n D (HO x) e) (hx : now < x) : e = 3 :=
  set_eq h.nums.2.2.2.2.2.2.2 (by omega) (fun j hj => by
    rw [h.bits j hj, ← bits3 j hj]
    congr 1
    unfold HO upd
    by_cases e0 : j = 0
    · subst e0; simp [hx]
    · rw [if_neg e0]; simp [e0])
theorem est2 {w : World} {bb beat miss now n D e x : Nat} {C : Nat → Prop} (h : BT w bb C 2 1 beat miss now n D (HO x) e) (hx : ¬ now < x) : e = 2 :=
  set_eq h.nums.2.2.2.2.2.2.2 (by omega) (fun j hj => by
    rw [h.bits j hj, ← bits2 j hj]
    congr 1
    unfold HO upd
    by_cases e0 : j = 0
    · subst e0; simp; omega
    · rw [if_neg e0]; simp)
set_option maxRecDepth 100000 in
set_option maxHeartbeats 4000000 in
theorem walk (w : World) (b : Int) (hb : 0 ≤ b ∧ b ≤ 255) (c : Int) (hc : 0 ≤ c ∧ c ≤ 255) (gp : Int) (hgp : 0 ≤ gp ∧ gp ≤ 255) (r0 : Int) (hr0 : 0 ≤ r0 ∧ r0 ≤ 255) :
    Calls Try.prog 5 #[.int .u8 b, .int .u8 c, .int .u8 gp, .int .u8 r0] w fun e w' => e = .returned (.bool true) ∧ Kept [] w w' := by
  obtain ⟨bt, hbt⟩ := conf_nat b 6 1 (by omega) (by omega)
  obtain ⟨ms, hms⟩ := conf_nat c 12 ((bt : Int) + 1) (by omega) (by omega)
  have HF := hid (okForm_conf 2 bt ms b c 1 (by omega) hbt hms)
  have HCF := hid (config_any 1 b c (by omega) hb hc 2 bt ms (by omega) hbt hms)
  have hbt6 : 1 ≤ bt ∧ bt ≤ 6 := by omega
  have hms20 : 2 ≤ ms ∧ ms ≤ 18 := by omega
  obtain ⟨g3, g4⟩ := hbt6
  obtain ⟨g5, g6⟩ := hms20
  obtain ⟨G, hG⟩ := conf_nat gp ((ms : Int) - 1) 1 (by omega) (by omega)
  have hG2 : 1 ≤ G ∧ G < ms := by
    have h1 := Int.emod_lt_of_pos gp (b := (ms : Int) - 1) (by omega)
    have h2 := Int.emod_nonneg gp (b := (ms : Int) - 1) (by omega)
    omega
  obtain ⟨R, hR⟩ := conf_nat r0 20 0 (by omega) (by omega)
  have hR20 : R ≤ 19 := by omega
  have hRi : r0 % 20 = (R : Int) := by omega
  have hGi : 1 + gp % ((ms : Int) - 1) = (G : Int) := by omega
  obtain ⟨g7, g8⟩ := hG2
  obtain ⟨r1, r2⟩ := hr0
  obtain ⟨p1, p2⟩ := hgp
  have hms0 : ¬ (ms : Int) - 1 = 0 := by omega
  have hms1 : (1 : Int) ≤ (ms : Int) - 1 := by omega
  have hms2 : (2 : Int) ≤ (ms : Int) := by omega
  have hms3 : (ms : Int) ≤ 18 := by omega
  clear hbt hms hb hc hG hR
  go_enter Try.func5, Try.ntmps5
  go_wp2_with fail
  refine (awake_true w).mono ?_
  rintro e w1 ⟨rfl, hK1⟩
  go_wp2_with fail
  refine (HCF.out w1).mono ?_
  rintro e w2 ⟨rfl, hK2⟩
  have K2 := hid (hK1.trans hK2)
  clear hK1 hK2
  unfold cfg
  go_wp2_with fail
  have HBX := hid (blk_alloc_new w2 (cfgO 2 (bt : Int) (ms : Int) 1 1 1))
  have HKS := hid (kept_new (w := w2) (cfgO 2 (bt : Int) (ms : Int) 1 1 1))
  refine (beat_new 2 1 bt ms 1 1 1 HF.out (by omega) _).mono ?_
  rintro e w3 ⟨bb, C, ev, rfl, hT, hK3, hC⟩
  rw [← HO_zero] at hT
  have HT := hid hT
  have HB := hid (⟨hK3.blk HBX.out (by simp), fun h => by have h1 := hC _ h; simp at h1; omega⟩ : BXs w3 C w2.heap.size (cfgO 2 (bt : Int) (ms : Int) 1 1 1))
  have HK := hid ((K2.out.trans HKS.out).trans hK3)
  have HC := hid (fun k hk => by have h1 := hC k hk; have h2 := K2.out.size; simp at h1; omega : ∀ k, C k → w.heap.size ≤ k)
  have d2 : w3.cell? ⟨w2.heap.size, 2, none⟩ = some (.int .i64 (ms : Int)) := (cell_of HB.out.at_).trans rfl
  clear hT hK3 hC K2 HBX HKS
  go_wp2_with fail
  obtain ⟨cb, hcb⟩ : ∃ cb, cb = w2.heap.size := ⟨_, rfl⟩
  rw [← hcb] at HB ⊢
  clear hcb d2 hGi
  go_loopw [13, 14] (fun iv u1 wr => ∃ (i t n D ev x : Nat) (C : Nat → Prop), i ≤ R ∧ t ≤ 17 * i ∧ n ≤ 1 + i + t ∧ iv = .int .i64 (i : Int) ∧ BT wr bb C 2 1 bt ms t n D (HO x) ev ∧ BXs wr C cb (cfgO 2 (bt : Int) (ms : Int) 1 1 1) ∧ Kept [] w wr ∧ (∀ k, C k → w.heap.size ≤ k)) (fun iv _ _ => R - (intOf iv).toNat)
  case atStart => exact ⟨0, 0, 1, 1, ev, 0, C, by omega, by omega, by omega, rfl, HT.out, HB.out, HK.out, HC.out⟩
  case round =>
    clear HT HB HK HC
    obtain ⟨i, t, n, D, ev, x, C, hi, ht, hn, rfl, hT, hB, hK, hC⟩ := hrel
    have HT := hid hT
    have HB := hid hB
    have HK := hid hK
    have HC := hid hC
    clear hT hB hK hC
    by_cases hlt : i < R
    · have hlti : (i : Int) < (R : Int) := by omega
      go_wp2_with fail
      refine (heard_ok HT.out 0 (by omega) (by omega) (by omega) (by omega)).mono ?_
      rintro e w4 ⟨rfl, C4, e4, hT4, hS4⟩
      obtain ⟨hK4, hC4⟩ := hS4.base HK.out HC.out
      rw [HO_heard] at hT4
      have HT4 := hid hT4
      have HB4 := hid (HB.out.step hS4)
      have HK4 := hid hK4
      have HC4 := hid hC4
      clear hT4 hS4 hK4 hC4 HT HB HK HC
      go_wp2_with fail
      obtain ⟨wo, rfl⟩ : ∃ wo : World, wo = wr := ⟨_, rfl⟩
      go_loopw [14] (fun kv wr => ∃ (k n' D ev : Nat) (C : Nat → Prop), k ≤ G ∧ n' ≤ n + 1 + k ∧ kv = .int .i64 (k : Int) ∧ BT wr bb C 2 1 bt ms (t + k) n' D (HO (t + ms)) ev ∧ BXs wr C cb (cfgO 2 (bt : Int) (ms : Int) 1 1 1) ∧ Kept [] w wr ∧ (∀ k, C k → w.heap.size ≤ k)) (fun kv _ => G - (intOf kv).toNat)
      case atStart => exact ⟨0, n + 1, D, e4, C4, by omega, by omega, rfl, HT4.out, HB4.out, HK4.out, HC4.out⟩
      case round =>
        clear HT4 HB4 HK4 HC4
        obtain ⟨k, n', D, ev, C, hk, hn', rfl, hT, hB, hK, hC⟩ := hrel
        by_cases hlk : k < G
        · have hlki : (k : Int) < (G : Int) := by omega
          have he := est3 hT (by omega)
          subst he
          have HT := hid hT
          have HB := hid hB
          have HK := hid hK
          have HC := hid hC
          clear hT hB hK hC
          go_wp2_with fail
          refine (est_any HT.out).mono ?_
          rintro e w5 ⟨rfl, rfl⟩
          go_wp2_with fail
          refine (beat_tick HT.out (by omega) (by omega)).mono ?_
          rintro e w5 ⟨rfl, C5, e5, n5, hn5, hT5, hS5⟩
          obtain ⟨hK5, hC5⟩ := hS5.base HK.out HC.out
          have HT5 := hid hT5
          have HB5 := hid (HB.out.step hS5)
          have HK5 := hid hK5
          have HC5 := hid hC5
          clear hT5 hS5 hK5 hC5 HT HB HK HC
          go_wp2_with fail
          go_roundw
          case rel => exact ⟨k + 1, n5, _, e5, C5, by omega, by omega, by go_num, HT5.out, HB5.out, HK5.out, HC5.out⟩
          case measure => simp [intOf]; omega
        · obtain rfl : k = G := by omega
          have HT := hid hT
          have HB := hid hB
          have HK := hid hK
          have HC := hid hC
          clear hT hB hK hC
          go_wp2_with fail
          go_roundw
          case rel => exact ⟨i + 1, t + k, n', D, ev, t + ms, C, by omega, by omega, by omega, by go_num, HT.out, HB.out, HK.out, HC.out⟩
          case measure => simp [intOf]; omega
    · obtain rfl : i = R := by omega
      go_wp2_with fail
      refine (heard_ok HT.out 0 (by omega) (by omega) (by omega) (by omega)).mono ?_
      rintro e w4 ⟨rfl, C4, e4, hT4, hS4⟩
      obtain ⟨hK4, hC4⟩ := hS4.base HK.out HC.out
      rw [HO_heard] at hT4
      have HT4 := hid hT4
      have HB4 := hid (HB.out.step hS4)
      have HK4 := hid hK4
      have HC4 := hid hC4
      clear hT4 hS4 hK4 hC4 HT HB HK HC
      go_wp2_with fail
      obtain ⟨wo, rfl⟩ : ∃ wo : World, wo = wr := ⟨_, rfl⟩
      go_loopw [15] (fun kv wr => ∃ (k n' D ev : Nat) (C : Nat → Prop), k ≤ ms ∧ n' ≤ n + 1 + k ∧ kv = .int .i64 (k : Int) ∧ BT wr bb C 2 1 bt ms (t + k) n' D (HO (t + ms)) ev ∧ BXs wr C cb (cfgO 2 (bt : Int) (ms : Int) 1 1 1) ∧ Kept [] w wr ∧ (∀ k, C k → w.heap.size ≤ k)) (fun kv _ => ms - (intOf kv).toNat)
      case atStart => exact ⟨0, n + 1, D, e4, C4, by omega, by omega, rfl, HT4.out, HB4.out, HK4.out, HC4.out⟩
      case round =>
        clear HT4 HB4 HK4 HC4
        obtain ⟨k, n', D, ev, C, hk, hn', rfl, hT, hB, hK, hC⟩ := hrel
        have d2 : wr.cell? ⟨cb, 2, none⟩ = some (.int .i64 (ms : Int)) := (cell_of hB.at_).trans rfl
        by_cases hlk : k < ms
        · have hlki : (k : Int) < (ms : Int) := by omega
          have he := est3 hT (by omega)
          subst he
          have HT := hid hT
          have HB := hid hB
          have HK := hid hK
          have HC := hid hC
          clear hT hB hK hC
          go_wp2_with fail
          refine (est_any HT.out).mono ?_
          rintro e w5 ⟨rfl, rfl⟩
          go_wp2_with fail
          refine (beat_tick HT.out (by omega) (by omega)).mono ?_
          rintro e w5 ⟨rfl, C5, e5, n5, hn5, hT5, hS5⟩
          obtain ⟨hK5, hC5⟩ := hS5.base HK.out HC.out
          have HT5 := hid hT5
          have HB5 := hid (HB.out.step hS5)
          have HK5 := hid hK5
          have HC5 := hid hC5
          clear hT5 hS5 hK5 hC5 HT HB HK HC
          go_wp2_with fail
          go_roundw
          case rel => exact ⟨k + 1, n5, _, e5, C5, by omega, by omega, by go_num, HT5.out, HB5.out, HK5.out, HC5.out⟩
          case measure => simp [intOf]; omega
        · obtain rfl : k = ms := by omega
          have he := est2 hT (by omega)
          subst he
          have HT := hid hT
          have HK := hid hK
          clear hT hB hK hC
          go_wp2_with fail
          refine (est_any HT.out).mono ?_
          rintro e w5 ⟨rfl, rfl⟩
          go_wp2
          go_ret
          exact ⟨rfl, HK.out⟩
end BeatLast
end Go.Proofs.Ytkemkoiknoefdaa
