/- The laws' configuration; BeatForms. -/
import Derived.Test.YtkemkoiknoefdaaBeatAwake
namespace Go.Proofs.Ytkemkoiknoefdaa
open Go.RowKit
set_option linter.unusedVariables false
set_option linter.unusedSimpArgs false

set_option maxHeartbeats 1000000 in
theorem config_any (a b c : Int) (ha : 0 ≤ a ∧ a ≤ 255) (hb : 0 ≤ b ∧ b ≤ 255) (hc : 0 ≤ c ∧ c ≤ 255) (nn beat miss : Nat) (hn : (nn : Int) = 1 + a % 16) (hbt : (beat : Int) = 1 + b % 6) (hm : (miss : Int) = (beat : Int) + 1 + c % 12) (w : World) :
    Calls Try.prog 13 #[.int .u8 a, .int .u8 b, .int .u8 c] w fun r w' => r = .returned (cfg (nn : Int) (beat : Int) (miss : Int) 1 1 1) ∧ Kept [] w w' := by
  obtain ⟨a1, a2⟩ := ha
  obtain ⟨b1, b2⟩ := hb
  obtain ⟨c1, c2⟩ := hc
  have HN := hid hn
  have HB := hid hbt
  have HM := hid hm
  clear hn hbt hm
  go_enter Try.func13, Try.ntmps13
  go_wp2
  rw [← HN.out, ← HB.out, ← HM.out]
  exact bodyPost_ret (v := cfg (nn : Int) (beat : Int) (miss : Int) 1 1 1) (results_cell_row rfl _ _ w.heap.size _ _ _ _ rfl (blk_alloc_new w _) Try.underlying23 rfl (by kernel_rfl)) rfl ⟨rfl, kept_new _⟩
theorem okForm_conf (nn beat miss : Nat) (b c a : Int) (hn : (nn : Int) = 1 + a % 16) (hbt : (beat : Int) = 1 + b % 6) (hm : (miss : Int) = (beat : Int) + 1 + c % 12) : okForm (nn : Int) (beat : Int) (miss : Int) 1 1 1 := by unfold okForm; omega
theorem rwith_zero (i : Nat) (hi : i < 16) (w : World) : Calls Try.prog 12 #[.int .u16 0, .int .i64 (i : Int)] w fun e w' => e = .returned (.int .u16 (setIn 0 i : Int)) ∧ w = w' := rwith_any 0 i (by omega) hi w
namespace BeatForms
set_option maxRecDepth 100000 in
set_option maxHeartbeats 4000000 in
theorem bad (w : World) (c0 c1 c2 c3 c4 c5 me : Int) (hf : ¬ okForm c0 c1 c2 c3 c4 c5) :
    Calls Try.prog 3 #[cfg c0 c1 c2 c3 c4 c5, .int .i64 me] w fun e w' => e = .returned (.bool true) ∧ Kept [] w w' := by
  have HBX := hid (blk_alloc_new w (cfgO c0 c1 c2 c3 c4 c5))
  unfold cfg
  have HF := hid hf
  by_cases h0 : ¬ (1 ≤ c0)
  · as_aux_lemma =>
      clear hf
      go_enter Try.func3, Try.ntmps3
      go_wp2_with fail
      refine (awake_true _).mono ?_
      rintro e w1 ⟨rfl, hK1⟩
      have K1 := hid ((kept_new (w := w) _).trans hK1)
      have B1 := hid (hK1.blk (HBX.out) (by simp) : w1.heap[w.heap.size]? = some (cfgO c0 c1 c2 c3 c4 c5))
      have d0a : w1.cell? ⟨w.heap.size, 0, none⟩ = some (.int .i64 c0) := (cell_of B1.out).trans rfl
      have d1a : w1.cell? ⟨w.heap.size, 1, none⟩ = some (.int .i64 c1) := (cell_of B1.out).trans rfl
      have d2a : w1.cell? ⟨w.heap.size, 2, none⟩ = some (.int .i64 c2) := (cell_of B1.out).trans rfl
      have d3a : w1.cell? ⟨w.heap.size, 3, none⟩ = some (.int .i64 c3) := (cell_of B1.out).trans rfl
      have d4a : w1.cell? ⟨w.heap.size, 4, none⟩ = some (.int .i64 c4) := (cell_of B1.out).trans rfl
      have d5a : w1.cell? ⟨w.heap.size, 5, none⟩ = some (.int .i64 c5) := (cell_of B1.out).trans rfl
      clear hK1
      go_wp2_with fail
      refine (new_form c0 c1 c2 c3 c4 c5 HF.out me w1).mono ?_
      rintro e w2 ⟨rfl, hK2⟩
      have K2 := hid (K1.out.trans hK2)
      have B2 := hid (hK2.blk B1.out (by simp))
      have d0b : w2.cell? ⟨w.heap.size, 0, none⟩ = some (.int .i64 c0) := (cell_of B2.out).trans rfl
      have d1b : w2.cell? ⟨w.heap.size, 1, none⟩ = some (.int .i64 c1) := (cell_of B2.out).trans rfl
      have d2b : w2.cell? ⟨w.heap.size, 2, none⟩ = some (.int .i64 c2) := (cell_of B2.out).trans rfl
      have d3b : w2.cell? ⟨w.heap.size, 3, none⟩ = some (.int .i64 c3) := (cell_of B2.out).trans rfl
      have d4b : w2.cell? ⟨w.heap.size, 4, none⟩ = some (.int .i64 c4) := (cell_of B2.out).trans rfl
      have d5b : w2.cell? ⟨w.heap.size, 5, none⟩ = some (.int .i64 c5) := (cell_of B2.out).trans rfl
      clear hK2
      go_wp2_with fail
      refine (form_bad c0 c1 c2 c3 c4 c5 HF.out w2).mono ?_
      rintro e w3 ⟨rfl, hK3⟩
      have B3 := hid (hK3.blk B2.out (by simp))
      have d0c : w3.cell? ⟨w.heap.size, 0, none⟩ = some (.int .i64 c0) := (cell_of B3.out).trans rfl
      have d1c : w3.cell? ⟨w.heap.size, 1, none⟩ = some (.int .i64 c1) := (cell_of B3.out).trans rfl
      have d2c : w3.cell? ⟨w.heap.size, 2, none⟩ = some (.int .i64 c2) := (cell_of B3.out).trans rfl
      have d3c : w3.cell? ⟨w.heap.size, 3, none⟩ = some (.int .i64 c3) := (cell_of B3.out).trans rfl
      have d4c : w3.cell? ⟨w.heap.size, 4, none⟩ = some (.int .i64 c4) := (cell_of B3.out).trans rfl
      have d5c : w3.cell? ⟨w.heap.size, 5, none⟩ = some (.int .i64 c5) := (cell_of B3.out).trans rfl
      go_wp2
      go_ret
      exact ⟨rfl, K2.out.trans hK3⟩
  have h0 : 1 ≤ c0 := Classical.not_not.1 h0
  by_cases h1 : ¬ (c0 ≤ 16)
  · as_aux_lemma =>
      clear hf
      go_enter Try.func3, Try.ntmps3
      go_wp2_with fail
      refine (awake_true _).mono ?_
      rintro e w1 ⟨rfl, hK1⟩
      have K1 := hid ((kept_new (w := w) _).trans hK1)
      have B1 := hid (hK1.blk (HBX.out) (by simp) : w1.heap[w.heap.size]? = some (cfgO c0 c1 c2 c3 c4 c5))
      have d0a : w1.cell? ⟨w.heap.size, 0, none⟩ = some (.int .i64 c0) := (cell_of B1.out).trans rfl
      have d1a : w1.cell? ⟨w.heap.size, 1, none⟩ = some (.int .i64 c1) := (cell_of B1.out).trans rfl
      have d2a : w1.cell? ⟨w.heap.size, 2, none⟩ = some (.int .i64 c2) := (cell_of B1.out).trans rfl
      have d3a : w1.cell? ⟨w.heap.size, 3, none⟩ = some (.int .i64 c3) := (cell_of B1.out).trans rfl
      have d4a : w1.cell? ⟨w.heap.size, 4, none⟩ = some (.int .i64 c4) := (cell_of B1.out).trans rfl
      have d5a : w1.cell? ⟨w.heap.size, 5, none⟩ = some (.int .i64 c5) := (cell_of B1.out).trans rfl
      clear hK1
      go_wp2_with fail
      refine (new_form c0 c1 c2 c3 c4 c5 HF.out me w1).mono ?_
      rintro e w2 ⟨rfl, hK2⟩
      have K2 := hid (K1.out.trans hK2)
      have B2 := hid (hK2.blk B1.out (by simp))
      have d0b : w2.cell? ⟨w.heap.size, 0, none⟩ = some (.int .i64 c0) := (cell_of B2.out).trans rfl
      have d1b : w2.cell? ⟨w.heap.size, 1, none⟩ = some (.int .i64 c1) := (cell_of B2.out).trans rfl
      have d2b : w2.cell? ⟨w.heap.size, 2, none⟩ = some (.int .i64 c2) := (cell_of B2.out).trans rfl
      have d3b : w2.cell? ⟨w.heap.size, 3, none⟩ = some (.int .i64 c3) := (cell_of B2.out).trans rfl
      have d4b : w2.cell? ⟨w.heap.size, 4, none⟩ = some (.int .i64 c4) := (cell_of B2.out).trans rfl
      have d5b : w2.cell? ⟨w.heap.size, 5, none⟩ = some (.int .i64 c5) := (cell_of B2.out).trans rfl
      clear hK2
      go_wp2_with fail
      refine (form_bad c0 c1 c2 c3 c4 c5 HF.out w2).mono ?_
      rintro e w3 ⟨rfl, hK3⟩
      have B3 := hid (hK3.blk B2.out (by simp))
      have d0c : w3.cell? ⟨w.heap.size, 0, none⟩ = some (.int .i64 c0) := (cell_of B3.out).trans rfl
      have d1c : w3.cell? ⟨w.heap.size, 1, none⟩ = some (.int .i64 c1) := (cell_of B3.out).trans rfl
      have d2c : w3.cell? ⟨w.heap.size, 2, none⟩ = some (.int .i64 c2) := (cell_of B3.out).trans rfl
      have d3c : w3.cell? ⟨w.heap.size, 3, none⟩ = some (.int .i64 c3) := (cell_of B3.out).trans rfl
      have d4c : w3.cell? ⟨w.heap.size, 4, none⟩ = some (.int .i64 c4) := (cell_of B3.out).trans rfl
      have d5c : w3.cell? ⟨w.heap.size, 5, none⟩ = some (.int .i64 c5) := (cell_of B3.out).trans rfl
      go_wp2
      go_ret
      exact ⟨rfl, K2.out.trans hK3⟩
  have h1 : c0 ≤ 16 := Classical.not_not.1 h1
  by_cases h2 : ¬ (1 ≤ c1)
  · as_aux_lemma =>
      clear hf
      go_enter Try.func3, Try.ntmps3
      go_wp2_with fail
      refine (awake_true _).mono ?_
      rintro e w1 ⟨rfl, hK1⟩
      have K1 := hid ((kept_new (w := w) _).trans hK1)
      have B1 := hid (hK1.blk (HBX.out) (by simp) : w1.heap[w.heap.size]? = some (cfgO c0 c1 c2 c3 c4 c5))
      have d0a : w1.cell? ⟨w.heap.size, 0, none⟩ = some (.int .i64 c0) := (cell_of B1.out).trans rfl
      have d1a : w1.cell? ⟨w.heap.size, 1, none⟩ = some (.int .i64 c1) := (cell_of B1.out).trans rfl
      have d2a : w1.cell? ⟨w.heap.size, 2, none⟩ = some (.int .i64 c2) := (cell_of B1.out).trans rfl
      have d3a : w1.cell? ⟨w.heap.size, 3, none⟩ = some (.int .i64 c3) := (cell_of B1.out).trans rfl
      have d4a : w1.cell? ⟨w.heap.size, 4, none⟩ = some (.int .i64 c4) := (cell_of B1.out).trans rfl
      have d5a : w1.cell? ⟨w.heap.size, 5, none⟩ = some (.int .i64 c5) := (cell_of B1.out).trans rfl
      clear hK1
      go_wp2_with fail
      refine (new_form c0 c1 c2 c3 c4 c5 HF.out me w1).mono ?_
      rintro e w2 ⟨rfl, hK2⟩
      have K2 := hid (K1.out.trans hK2)
      have B2 := hid (hK2.blk B1.out (by simp))
      have d0b : w2.cell? ⟨w.heap.size, 0, none⟩ = some (.int .i64 c0) := (cell_of B2.out).trans rfl
      have d1b : w2.cell? ⟨w.heap.size, 1, none⟩ = some (.int .i64 c1) := (cell_of B2.out).trans rfl
      have d2b : w2.cell? ⟨w.heap.size, 2, none⟩ = some (.int .i64 c2) := (cell_of B2.out).trans rfl
      have d3b : w2.cell? ⟨w.heap.size, 3, none⟩ = some (.int .i64 c3) := (cell_of B2.out).trans rfl
      have d4b : w2.cell? ⟨w.heap.size, 4, none⟩ = some (.int .i64 c4) := (cell_of B2.out).trans rfl
      have d5b : w2.cell? ⟨w.heap.size, 5, none⟩ = some (.int .i64 c5) := (cell_of B2.out).trans rfl
      clear hK2
      go_wp2_with fail
      refine (form_bad c0 c1 c2 c3 c4 c5 HF.out w2).mono ?_
      rintro e w3 ⟨rfl, hK3⟩
      have B3 := hid (hK3.blk B2.out (by simp))
      have d0c : w3.cell? ⟨w.heap.size, 0, none⟩ = some (.int .i64 c0) := (cell_of B3.out).trans rfl
      have d1c : w3.cell? ⟨w.heap.size, 1, none⟩ = some (.int .i64 c1) := (cell_of B3.out).trans rfl
      have d2c : w3.cell? ⟨w.heap.size, 2, none⟩ = some (.int .i64 c2) := (cell_of B3.out).trans rfl
      have d3c : w3.cell? ⟨w.heap.size, 3, none⟩ = some (.int .i64 c3) := (cell_of B3.out).trans rfl
      have d4c : w3.cell? ⟨w.heap.size, 4, none⟩ = some (.int .i64 c4) := (cell_of B3.out).trans rfl
      have d5c : w3.cell? ⟨w.heap.size, 5, none⟩ = some (.int .i64 c5) := (cell_of B3.out).trans rfl
      go_wp2
      go_ret
      exact ⟨rfl, K2.out.trans hK3⟩
  have h2 : 1 ≤ c1 := Classical.not_not.1 h2
  by_cases h3 : ¬ (c1 < c2)
  · as_aux_lemma =>
      clear hf
      go_enter Try.func3, Try.ntmps3
      go_wp2_with fail
      refine (awake_true _).mono ?_
      rintro e w1 ⟨rfl, hK1⟩
      have K1 := hid ((kept_new (w := w) _).trans hK1)
      have B1 := hid (hK1.blk (HBX.out) (by simp) : w1.heap[w.heap.size]? = some (cfgO c0 c1 c2 c3 c4 c5))
      have d0a : w1.cell? ⟨w.heap.size, 0, none⟩ = some (.int .i64 c0) := (cell_of B1.out).trans rfl
      have d1a : w1.cell? ⟨w.heap.size, 1, none⟩ = some (.int .i64 c1) := (cell_of B1.out).trans rfl
      have d2a : w1.cell? ⟨w.heap.size, 2, none⟩ = some (.int .i64 c2) := (cell_of B1.out).trans rfl
      have d3a : w1.cell? ⟨w.heap.size, 3, none⟩ = some (.int .i64 c3) := (cell_of B1.out).trans rfl
      have d4a : w1.cell? ⟨w.heap.size, 4, none⟩ = some (.int .i64 c4) := (cell_of B1.out).trans rfl
      have d5a : w1.cell? ⟨w.heap.size, 5, none⟩ = some (.int .i64 c5) := (cell_of B1.out).trans rfl
      clear hK1
      go_wp2_with fail
      refine (new_form c0 c1 c2 c3 c4 c5 HF.out me w1).mono ?_
      rintro e w2 ⟨rfl, hK2⟩
      have K2 := hid (K1.out.trans hK2)
      have B2 := hid (hK2.blk B1.out (by simp))
      have d0b : w2.cell? ⟨w.heap.size, 0, none⟩ = some (.int .i64 c0) := (cell_of B2.out).trans rfl
      have d1b : w2.cell? ⟨w.heap.size, 1, none⟩ = some (.int .i64 c1) := (cell_of B2.out).trans rfl
      have d2b : w2.cell? ⟨w.heap.size, 2, none⟩ = some (.int .i64 c2) := (cell_of B2.out).trans rfl
      have d3b : w2.cell? ⟨w.heap.size, 3, none⟩ = some (.int .i64 c3) := (cell_of B2.out).trans rfl
      have d4b : w2.cell? ⟨w.heap.size, 4, none⟩ = some (.int .i64 c4) := (cell_of B2.out).trans rfl
      have d5b : w2.cell? ⟨w.heap.size, 5, none⟩ = some (.int .i64 c5) := (cell_of B2.out).trans rfl
      clear hK2
      go_wp2_with fail
      refine (form_bad c0 c1 c2 c3 c4 c5 HF.out w2).mono ?_
      rintro e w3 ⟨rfl, hK3⟩
      have B3 := hid (hK3.blk B2.out (by simp))
      have d0c : w3.cell? ⟨w.heap.size, 0, none⟩ = some (.int .i64 c0) := (cell_of B3.out).trans rfl
      have d1c : w3.cell? ⟨w.heap.size, 1, none⟩ = some (.int .i64 c1) := (cell_of B3.out).trans rfl
      have d2c : w3.cell? ⟨w.heap.size, 2, none⟩ = some (.int .i64 c2) := (cell_of B3.out).trans rfl
      have d3c : w3.cell? ⟨w.heap.size, 3, none⟩ = some (.int .i64 c3) := (cell_of B3.out).trans rfl
      have d4c : w3.cell? ⟨w.heap.size, 4, none⟩ = some (.int .i64 c4) := (cell_of B3.out).trans rfl
      have d5c : w3.cell? ⟨w.heap.size, 5, none⟩ = some (.int .i64 c5) := (cell_of B3.out).trans rfl
      go_wp2
      go_ret
      exact ⟨rfl, K2.out.trans hK3⟩
  have h3 : c1 < c2 := Classical.not_not.1 h3
  by_cases h4 : ¬ (c2 ≤ 1000)
  · as_aux_lemma =>
      clear hf
      go_enter Try.func3, Try.ntmps3
      go_wp2_with fail
      refine (awake_true _).mono ?_
      rintro e w1 ⟨rfl, hK1⟩
      have K1 := hid ((kept_new (w := w) _).trans hK1)
      have B1 := hid (hK1.blk (HBX.out) (by simp) : w1.heap[w.heap.size]? = some (cfgO c0 c1 c2 c3 c4 c5))
      have d0a : w1.cell? ⟨w.heap.size, 0, none⟩ = some (.int .i64 c0) := (cell_of B1.out).trans rfl
      have d1a : w1.cell? ⟨w.heap.size, 1, none⟩ = some (.int .i64 c1) := (cell_of B1.out).trans rfl
      have d2a : w1.cell? ⟨w.heap.size, 2, none⟩ = some (.int .i64 c2) := (cell_of B1.out).trans rfl
      have d3a : w1.cell? ⟨w.heap.size, 3, none⟩ = some (.int .i64 c3) := (cell_of B1.out).trans rfl
      have d4a : w1.cell? ⟨w.heap.size, 4, none⟩ = some (.int .i64 c4) := (cell_of B1.out).trans rfl
      have d5a : w1.cell? ⟨w.heap.size, 5, none⟩ = some (.int .i64 c5) := (cell_of B1.out).trans rfl
      clear hK1
      go_wp2_with fail
      refine (new_form c0 c1 c2 c3 c4 c5 HF.out me w1).mono ?_
      rintro e w2 ⟨rfl, hK2⟩
      have K2 := hid (K1.out.trans hK2)
      have B2 := hid (hK2.blk B1.out (by simp))
      have d0b : w2.cell? ⟨w.heap.size, 0, none⟩ = some (.int .i64 c0) := (cell_of B2.out).trans rfl
      have d1b : w2.cell? ⟨w.heap.size, 1, none⟩ = some (.int .i64 c1) := (cell_of B2.out).trans rfl
      have d2b : w2.cell? ⟨w.heap.size, 2, none⟩ = some (.int .i64 c2) := (cell_of B2.out).trans rfl
      have d3b : w2.cell? ⟨w.heap.size, 3, none⟩ = some (.int .i64 c3) := (cell_of B2.out).trans rfl
      have d4b : w2.cell? ⟨w.heap.size, 4, none⟩ = some (.int .i64 c4) := (cell_of B2.out).trans rfl
      have d5b : w2.cell? ⟨w.heap.size, 5, none⟩ = some (.int .i64 c5) := (cell_of B2.out).trans rfl
      clear hK2
      go_wp2_with fail
      refine (form_bad c0 c1 c2 c3 c4 c5 HF.out w2).mono ?_
      rintro e w3 ⟨rfl, hK3⟩
      have B3 := hid (hK3.blk B2.out (by simp))
      have d0c : w3.cell? ⟨w.heap.size, 0, none⟩ = some (.int .i64 c0) := (cell_of B3.out).trans rfl
      have d1c : w3.cell? ⟨w.heap.size, 1, none⟩ = some (.int .i64 c1) := (cell_of B3.out).trans rfl
      have d2c : w3.cell? ⟨w.heap.size, 2, none⟩ = some (.int .i64 c2) := (cell_of B3.out).trans rfl
      have d3c : w3.cell? ⟨w.heap.size, 3, none⟩ = some (.int .i64 c3) := (cell_of B3.out).trans rfl
      have d4c : w3.cell? ⟨w.heap.size, 4, none⟩ = some (.int .i64 c4) := (cell_of B3.out).trans rfl
      have d5c : w3.cell? ⟨w.heap.size, 5, none⟩ = some (.int .i64 c5) := (cell_of B3.out).trans rfl
      go_wp2
      go_ret
      exact ⟨rfl, K2.out.trans hK3⟩
  have h4 : c2 ≤ 1000 := Classical.not_not.1 h4
  by_cases h5 : ¬ (1 ≤ c3)
  · as_aux_lemma =>
      clear hf
      go_enter Try.func3, Try.ntmps3
      go_wp2_with fail
      refine (awake_true _).mono ?_
      rintro e w1 ⟨rfl, hK1⟩
      have K1 := hid ((kept_new (w := w) _).trans hK1)
      have B1 := hid (hK1.blk (HBX.out) (by simp) : w1.heap[w.heap.size]? = some (cfgO c0 c1 c2 c3 c4 c5))
      have d0a : w1.cell? ⟨w.heap.size, 0, none⟩ = some (.int .i64 c0) := (cell_of B1.out).trans rfl
      have d1a : w1.cell? ⟨w.heap.size, 1, none⟩ = some (.int .i64 c1) := (cell_of B1.out).trans rfl
      have d2a : w1.cell? ⟨w.heap.size, 2, none⟩ = some (.int .i64 c2) := (cell_of B1.out).trans rfl
      have d3a : w1.cell? ⟨w.heap.size, 3, none⟩ = some (.int .i64 c3) := (cell_of B1.out).trans rfl
      have d4a : w1.cell? ⟨w.heap.size, 4, none⟩ = some (.int .i64 c4) := (cell_of B1.out).trans rfl
      have d5a : w1.cell? ⟨w.heap.size, 5, none⟩ = some (.int .i64 c5) := (cell_of B1.out).trans rfl
      clear hK1
      go_wp2_with fail
      refine (new_form c0 c1 c2 c3 c4 c5 HF.out me w1).mono ?_
      rintro e w2 ⟨rfl, hK2⟩
      have K2 := hid (K1.out.trans hK2)
      have B2 := hid (hK2.blk B1.out (by simp))
      have d0b : w2.cell? ⟨w.heap.size, 0, none⟩ = some (.int .i64 c0) := (cell_of B2.out).trans rfl
      have d1b : w2.cell? ⟨w.heap.size, 1, none⟩ = some (.int .i64 c1) := (cell_of B2.out).trans rfl
      have d2b : w2.cell? ⟨w.heap.size, 2, none⟩ = some (.int .i64 c2) := (cell_of B2.out).trans rfl
      have d3b : w2.cell? ⟨w.heap.size, 3, none⟩ = some (.int .i64 c3) := (cell_of B2.out).trans rfl
      have d4b : w2.cell? ⟨w.heap.size, 4, none⟩ = some (.int .i64 c4) := (cell_of B2.out).trans rfl
      have d5b : w2.cell? ⟨w.heap.size, 5, none⟩ = some (.int .i64 c5) := (cell_of B2.out).trans rfl
      clear hK2
      go_wp2_with fail
      refine (form_bad c0 c1 c2 c3 c4 c5 HF.out w2).mono ?_
      rintro e w3 ⟨rfl, hK3⟩
      have B3 := hid (hK3.blk B2.out (by simp))
      have d0c : w3.cell? ⟨w.heap.size, 0, none⟩ = some (.int .i64 c0) := (cell_of B3.out).trans rfl
      have d1c : w3.cell? ⟨w.heap.size, 1, none⟩ = some (.int .i64 c1) := (cell_of B3.out).trans rfl
      have d2c : w3.cell? ⟨w.heap.size, 2, none⟩ = some (.int .i64 c2) := (cell_of B3.out).trans rfl
      have d3c : w3.cell? ⟨w.heap.size, 3, none⟩ = some (.int .i64 c3) := (cell_of B3.out).trans rfl
      have d4c : w3.cell? ⟨w.heap.size, 4, none⟩ = some (.int .i64 c4) := (cell_of B3.out).trans rfl
      have d5c : w3.cell? ⟨w.heap.size, 5, none⟩ = some (.int .i64 c5) := (cell_of B3.out).trans rfl
      go_wp2
      go_ret
      exact ⟨rfl, K2.out.trans hK3⟩
  have h5 : 1 ≤ c3 := Classical.not_not.1 h5
  by_cases h6 : ¬ (c3 ≤ 32)
  · as_aux_lemma =>
      clear hf
      go_enter Try.func3, Try.ntmps3
      go_wp2_with fail
      refine (awake_true _).mono ?_
      rintro e w1 ⟨rfl, hK1⟩
      have K1 := hid ((kept_new (w := w) _).trans hK1)
      have B1 := hid (hK1.blk (HBX.out) (by simp) : w1.heap[w.heap.size]? = some (cfgO c0 c1 c2 c3 c4 c5))
      have d0a : w1.cell? ⟨w.heap.size, 0, none⟩ = some (.int .i64 c0) := (cell_of B1.out).trans rfl
      have d1a : w1.cell? ⟨w.heap.size, 1, none⟩ = some (.int .i64 c1) := (cell_of B1.out).trans rfl
      have d2a : w1.cell? ⟨w.heap.size, 2, none⟩ = some (.int .i64 c2) := (cell_of B1.out).trans rfl
      have d3a : w1.cell? ⟨w.heap.size, 3, none⟩ = some (.int .i64 c3) := (cell_of B1.out).trans rfl
      have d4a : w1.cell? ⟨w.heap.size, 4, none⟩ = some (.int .i64 c4) := (cell_of B1.out).trans rfl
      have d5a : w1.cell? ⟨w.heap.size, 5, none⟩ = some (.int .i64 c5) := (cell_of B1.out).trans rfl
      clear hK1
      go_wp2_with fail
      refine (new_form c0 c1 c2 c3 c4 c5 HF.out me w1).mono ?_
      rintro e w2 ⟨rfl, hK2⟩
      have K2 := hid (K1.out.trans hK2)
      have B2 := hid (hK2.blk B1.out (by simp))
      have d0b : w2.cell? ⟨w.heap.size, 0, none⟩ = some (.int .i64 c0) := (cell_of B2.out).trans rfl
      have d1b : w2.cell? ⟨w.heap.size, 1, none⟩ = some (.int .i64 c1) := (cell_of B2.out).trans rfl
      have d2b : w2.cell? ⟨w.heap.size, 2, none⟩ = some (.int .i64 c2) := (cell_of B2.out).trans rfl
      have d3b : w2.cell? ⟨w.heap.size, 3, none⟩ = some (.int .i64 c3) := (cell_of B2.out).trans rfl
      have d4b : w2.cell? ⟨w.heap.size, 4, none⟩ = some (.int .i64 c4) := (cell_of B2.out).trans rfl
      have d5b : w2.cell? ⟨w.heap.size, 5, none⟩ = some (.int .i64 c5) := (cell_of B2.out).trans rfl
      clear hK2
      go_wp2_with fail
      refine (form_bad c0 c1 c2 c3 c4 c5 HF.out w2).mono ?_
      rintro e w3 ⟨rfl, hK3⟩
      have B3 := hid (hK3.blk B2.out (by simp))
      have d0c : w3.cell? ⟨w.heap.size, 0, none⟩ = some (.int .i64 c0) := (cell_of B3.out).trans rfl
      have d1c : w3.cell? ⟨w.heap.size, 1, none⟩ = some (.int .i64 c1) := (cell_of B3.out).trans rfl
      have d2c : w3.cell? ⟨w.heap.size, 2, none⟩ = some (.int .i64 c2) := (cell_of B3.out).trans rfl
      have d3c : w3.cell? ⟨w.heap.size, 3, none⟩ = some (.int .i64 c3) := (cell_of B3.out).trans rfl
      have d4c : w3.cell? ⟨w.heap.size, 4, none⟩ = some (.int .i64 c4) := (cell_of B3.out).trans rfl
      have d5c : w3.cell? ⟨w.heap.size, 5, none⟩ = some (.int .i64 c5) := (cell_of B3.out).trans rfl
      go_wp2
      go_ret
      exact ⟨rfl, K2.out.trans hK3⟩
  have h6 : c3 ≤ 32 := Classical.not_not.1 h6
  by_cases h7 : ¬ (1 ≤ c4)
  · as_aux_lemma =>
      clear hf
      go_enter Try.func3, Try.ntmps3
      go_wp2_with fail
      refine (awake_true _).mono ?_
      rintro e w1 ⟨rfl, hK1⟩
      have K1 := hid ((kept_new (w := w) _).trans hK1)
      have B1 := hid (hK1.blk (HBX.out) (by simp) : w1.heap[w.heap.size]? = some (cfgO c0 c1 c2 c3 c4 c5))
      have d0a : w1.cell? ⟨w.heap.size, 0, none⟩ = some (.int .i64 c0) := (cell_of B1.out).trans rfl
      have d1a : w1.cell? ⟨w.heap.size, 1, none⟩ = some (.int .i64 c1) := (cell_of B1.out).trans rfl
      have d2a : w1.cell? ⟨w.heap.size, 2, none⟩ = some (.int .i64 c2) := (cell_of B1.out).trans rfl
      have d3a : w1.cell? ⟨w.heap.size, 3, none⟩ = some (.int .i64 c3) := (cell_of B1.out).trans rfl
      have d4a : w1.cell? ⟨w.heap.size, 4, none⟩ = some (.int .i64 c4) := (cell_of B1.out).trans rfl
      have d5a : w1.cell? ⟨w.heap.size, 5, none⟩ = some (.int .i64 c5) := (cell_of B1.out).trans rfl
      clear hK1
      go_wp2_with fail
      refine (new_form c0 c1 c2 c3 c4 c5 HF.out me w1).mono ?_
      rintro e w2 ⟨rfl, hK2⟩
      have K2 := hid (K1.out.trans hK2)
      have B2 := hid (hK2.blk B1.out (by simp))
      have d0b : w2.cell? ⟨w.heap.size, 0, none⟩ = some (.int .i64 c0) := (cell_of B2.out).trans rfl
      have d1b : w2.cell? ⟨w.heap.size, 1, none⟩ = some (.int .i64 c1) := (cell_of B2.out).trans rfl
      have d2b : w2.cell? ⟨w.heap.size, 2, none⟩ = some (.int .i64 c2) := (cell_of B2.out).trans rfl
      have d3b : w2.cell? ⟨w.heap.size, 3, none⟩ = some (.int .i64 c3) := (cell_of B2.out).trans rfl
      have d4b : w2.cell? ⟨w.heap.size, 4, none⟩ = some (.int .i64 c4) := (cell_of B2.out).trans rfl
      have d5b : w2.cell? ⟨w.heap.size, 5, none⟩ = some (.int .i64 c5) := (cell_of B2.out).trans rfl
      clear hK2
      go_wp2_with fail
      refine (form_bad c0 c1 c2 c3 c4 c5 HF.out w2).mono ?_
      rintro e w3 ⟨rfl, hK3⟩
      have B3 := hid (hK3.blk B2.out (by simp))
      have d0c : w3.cell? ⟨w.heap.size, 0, none⟩ = some (.int .i64 c0) := (cell_of B3.out).trans rfl
      have d1c : w3.cell? ⟨w.heap.size, 1, none⟩ = some (.int .i64 c1) := (cell_of B3.out).trans rfl
      have d2c : w3.cell? ⟨w.heap.size, 2, none⟩ = some (.int .i64 c2) := (cell_of B3.out).trans rfl
      have d3c : w3.cell? ⟨w.heap.size, 3, none⟩ = some (.int .i64 c3) := (cell_of B3.out).trans rfl
      have d4c : w3.cell? ⟨w.heap.size, 4, none⟩ = some (.int .i64 c4) := (cell_of B3.out).trans rfl
      have d5c : w3.cell? ⟨w.heap.size, 5, none⟩ = some (.int .i64 c5) := (cell_of B3.out).trans rfl
      go_wp2
      go_ret
      exact ⟨rfl, K2.out.trans hK3⟩
  have h7 : 1 ≤ c4 := Classical.not_not.1 h7
  by_cases h8 : ¬ (c4 ≤ 256)
  · as_aux_lemma =>
      clear hf
      go_enter Try.func3, Try.ntmps3
      go_wp2_with fail
      refine (awake_true _).mono ?_
      rintro e w1 ⟨rfl, hK1⟩
      have K1 := hid ((kept_new (w := w) _).trans hK1)
      have B1 := hid (hK1.blk (HBX.out) (by simp) : w1.heap[w.heap.size]? = some (cfgO c0 c1 c2 c3 c4 c5))
      have d0a : w1.cell? ⟨w.heap.size, 0, none⟩ = some (.int .i64 c0) := (cell_of B1.out).trans rfl
      have d1a : w1.cell? ⟨w.heap.size, 1, none⟩ = some (.int .i64 c1) := (cell_of B1.out).trans rfl
      have d2a : w1.cell? ⟨w.heap.size, 2, none⟩ = some (.int .i64 c2) := (cell_of B1.out).trans rfl
      have d3a : w1.cell? ⟨w.heap.size, 3, none⟩ = some (.int .i64 c3) := (cell_of B1.out).trans rfl
      have d4a : w1.cell? ⟨w.heap.size, 4, none⟩ = some (.int .i64 c4) := (cell_of B1.out).trans rfl
      have d5a : w1.cell? ⟨w.heap.size, 5, none⟩ = some (.int .i64 c5) := (cell_of B1.out).trans rfl
      clear hK1
      go_wp2_with fail
      refine (new_form c0 c1 c2 c3 c4 c5 HF.out me w1).mono ?_
      rintro e w2 ⟨rfl, hK2⟩
      have K2 := hid (K1.out.trans hK2)
      have B2 := hid (hK2.blk B1.out (by simp))
      have d0b : w2.cell? ⟨w.heap.size, 0, none⟩ = some (.int .i64 c0) := (cell_of B2.out).trans rfl
      have d1b : w2.cell? ⟨w.heap.size, 1, none⟩ = some (.int .i64 c1) := (cell_of B2.out).trans rfl
      have d2b : w2.cell? ⟨w.heap.size, 2, none⟩ = some (.int .i64 c2) := (cell_of B2.out).trans rfl
      have d3b : w2.cell? ⟨w.heap.size, 3, none⟩ = some (.int .i64 c3) := (cell_of B2.out).trans rfl
      have d4b : w2.cell? ⟨w.heap.size, 4, none⟩ = some (.int .i64 c4) := (cell_of B2.out).trans rfl
      have d5b : w2.cell? ⟨w.heap.size, 5, none⟩ = some (.int .i64 c5) := (cell_of B2.out).trans rfl
      clear hK2
      go_wp2_with fail
      refine (form_bad c0 c1 c2 c3 c4 c5 HF.out w2).mono ?_
      rintro e w3 ⟨rfl, hK3⟩
      have B3 := hid (hK3.blk B2.out (by simp))
      have d0c : w3.cell? ⟨w.heap.size, 0, none⟩ = some (.int .i64 c0) := (cell_of B3.out).trans rfl
      have d1c : w3.cell? ⟨w.heap.size, 1, none⟩ = some (.int .i64 c1) := (cell_of B3.out).trans rfl
      have d2c : w3.cell? ⟨w.heap.size, 2, none⟩ = some (.int .i64 c2) := (cell_of B3.out).trans rfl
      have d3c : w3.cell? ⟨w.heap.size, 3, none⟩ = some (.int .i64 c3) := (cell_of B3.out).trans rfl
      have d4c : w3.cell? ⟨w.heap.size, 4, none⟩ = some (.int .i64 c4) := (cell_of B3.out).trans rfl
      have d5c : w3.cell? ⟨w.heap.size, 5, none⟩ = some (.int .i64 c5) := (cell_of B3.out).trans rfl
      go_wp2
      go_ret
      exact ⟨rfl, K2.out.trans hK3⟩
  have h8 : c4 ≤ 256 := Classical.not_not.1 h8
  by_cases h9 : ¬ (1 ≤ c5)
  · as_aux_lemma =>
      clear hf
      go_enter Try.func3, Try.ntmps3
      go_wp2_with fail
      refine (awake_true _).mono ?_
      rintro e w1 ⟨rfl, hK1⟩
      have K1 := hid ((kept_new (w := w) _).trans hK1)
      have B1 := hid (hK1.blk (HBX.out) (by simp) : w1.heap[w.heap.size]? = some (cfgO c0 c1 c2 c3 c4 c5))
      have d0a : w1.cell? ⟨w.heap.size, 0, none⟩ = some (.int .i64 c0) := (cell_of B1.out).trans rfl
      have d1a : w1.cell? ⟨w.heap.size, 1, none⟩ = some (.int .i64 c1) := (cell_of B1.out).trans rfl
      have d2a : w1.cell? ⟨w.heap.size, 2, none⟩ = some (.int .i64 c2) := (cell_of B1.out).trans rfl
      have d3a : w1.cell? ⟨w.heap.size, 3, none⟩ = some (.int .i64 c3) := (cell_of B1.out).trans rfl
      have d4a : w1.cell? ⟨w.heap.size, 4, none⟩ = some (.int .i64 c4) := (cell_of B1.out).trans rfl
      have d5a : w1.cell? ⟨w.heap.size, 5, none⟩ = some (.int .i64 c5) := (cell_of B1.out).trans rfl
      clear hK1
      go_wp2_with fail
      refine (new_form c0 c1 c2 c3 c4 c5 HF.out me w1).mono ?_
      rintro e w2 ⟨rfl, hK2⟩
      have K2 := hid (K1.out.trans hK2)
      have B2 := hid (hK2.blk B1.out (by simp))
      have d0b : w2.cell? ⟨w.heap.size, 0, none⟩ = some (.int .i64 c0) := (cell_of B2.out).trans rfl
      have d1b : w2.cell? ⟨w.heap.size, 1, none⟩ = some (.int .i64 c1) := (cell_of B2.out).trans rfl
      have d2b : w2.cell? ⟨w.heap.size, 2, none⟩ = some (.int .i64 c2) := (cell_of B2.out).trans rfl
      have d3b : w2.cell? ⟨w.heap.size, 3, none⟩ = some (.int .i64 c3) := (cell_of B2.out).trans rfl
      have d4b : w2.cell? ⟨w.heap.size, 4, none⟩ = some (.int .i64 c4) := (cell_of B2.out).trans rfl
      have d5b : w2.cell? ⟨w.heap.size, 5, none⟩ = some (.int .i64 c5) := (cell_of B2.out).trans rfl
      clear hK2
      go_wp2_with fail
      refine (form_bad c0 c1 c2 c3 c4 c5 HF.out w2).mono ?_
      rintro e w3 ⟨rfl, hK3⟩
      have B3 := hid (hK3.blk B2.out (by simp))
      have d0c : w3.cell? ⟨w.heap.size, 0, none⟩ = some (.int .i64 c0) := (cell_of B3.out).trans rfl
      have d1c : w3.cell? ⟨w.heap.size, 1, none⟩ = some (.int .i64 c1) := (cell_of B3.out).trans rfl
      have d2c : w3.cell? ⟨w.heap.size, 2, none⟩ = some (.int .i64 c2) := (cell_of B3.out).trans rfl
      have d3c : w3.cell? ⟨w.heap.size, 3, none⟩ = some (.int .i64 c3) := (cell_of B3.out).trans rfl
      have d4c : w3.cell? ⟨w.heap.size, 4, none⟩ = some (.int .i64 c4) := (cell_of B3.out).trans rfl
      have d5c : w3.cell? ⟨w.heap.size, 5, none⟩ = some (.int .i64 c5) := (cell_of B3.out).trans rfl
      go_wp2
      go_ret
      exact ⟨rfl, K2.out.trans hK3⟩
  have h9 : 1 ≤ c5 := Classical.not_not.1 h9
  have h10 : ¬ (c5 ≤ 256) := fun h10 => hf ⟨⟨h0, h1⟩, ⟨h2, h3⟩, h4, ⟨h5, h6⟩, ⟨h7, h8⟩, ⟨h9, h10⟩⟩
  clear hf
  go_enter Try.func3, Try.ntmps3
  go_wp2_with fail
  refine (awake_true _).mono ?_
  rintro e w1 ⟨rfl, hK1⟩
  have K1 := hid ((kept_new (w := w) _).trans hK1)
  have B1 := hid (hK1.blk (HBX.out) (by simp) : w1.heap[w.heap.size]? = some (cfgO c0 c1 c2 c3 c4 c5))
  have d0a : w1.cell? ⟨w.heap.size, 0, none⟩ = some (.int .i64 c0) := (cell_of B1.out).trans rfl
  have d1a : w1.cell? ⟨w.heap.size, 1, none⟩ = some (.int .i64 c1) := (cell_of B1.out).trans rfl
  have d2a : w1.cell? ⟨w.heap.size, 2, none⟩ = some (.int .i64 c2) := (cell_of B1.out).trans rfl
  have d3a : w1.cell? ⟨w.heap.size, 3, none⟩ = some (.int .i64 c3) := (cell_of B1.out).trans rfl
  have d4a : w1.cell? ⟨w.heap.size, 4, none⟩ = some (.int .i64 c4) := (cell_of B1.out).trans rfl
  have d5a : w1.cell? ⟨w.heap.size, 5, none⟩ = some (.int .i64 c5) := (cell_of B1.out).trans rfl
  clear hK1
  go_wp2_with fail
  refine (new_form c0 c1 c2 c3 c4 c5 HF.out me w1).mono ?_
  rintro e w2 ⟨rfl, hK2⟩
  have K2 := hid (K1.out.trans hK2)
  have B2 := hid (hK2.blk B1.out (by simp))
  have d0b : w2.cell? ⟨w.heap.size, 0, none⟩ = some (.int .i64 c0) := (cell_of B2.out).trans rfl
  have d1b : w2.cell? ⟨w.heap.size, 1, none⟩ = some (.int .i64 c1) := (cell_of B2.out).trans rfl
  have d2b : w2.cell? ⟨w.heap.size, 2, none⟩ = some (.int .i64 c2) := (cell_of B2.out).trans rfl
  have d3b : w2.cell? ⟨w.heap.size, 3, none⟩ = some (.int .i64 c3) := (cell_of B2.out).trans rfl
  have d4b : w2.cell? ⟨w.heap.size, 4, none⟩ = some (.int .i64 c4) := (cell_of B2.out).trans rfl
  have d5b : w2.cell? ⟨w.heap.size, 5, none⟩ = some (.int .i64 c5) := (cell_of B2.out).trans rfl
  clear hK2
  go_wp2_with fail
  refine (form_bad c0 c1 c2 c3 c4 c5 HF.out w2).mono ?_
  rintro e w3 ⟨rfl, hK3⟩
  have B3 := hid (hK3.blk B2.out (by simp))
  have d0c : w3.cell? ⟨w.heap.size, 0, none⟩ = some (.int .i64 c0) := (cell_of B3.out).trans rfl
  have d1c : w3.cell? ⟨w.heap.size, 1, none⟩ = some (.int .i64 c1) := (cell_of B3.out).trans rfl
  have d2c : w3.cell? ⟨w.heap.size, 2, none⟩ = some (.int .i64 c2) := (cell_of B3.out).trans rfl
  have d3c : w3.cell? ⟨w.heap.size, 3, none⟩ = some (.int .i64 c3) := (cell_of B3.out).trans rfl
  have d4c : w3.cell? ⟨w.heap.size, 4, none⟩ = some (.int .i64 c4) := (cell_of B3.out).trans rfl
  have d5c : w3.cell? ⟨w.heap.size, 5, none⟩ = some (.int .i64 c5) := (cell_of B3.out).trans rfl
  go_wp2
  go_ret
  exact ⟨rfl, K2.out.trans hK3⟩
set_option maxRecDepth 100000 in
set_option maxHeartbeats 4000000 in
theorem notme (w : World) (c0 c1 c2 c3 c4 c5 me : Int) (hf : okForm c0 c1 c2 c3 c4 c5) (hm : me < 0 ∨ c0 ≤ me) :
    Calls Try.prog 3 #[cfg c0 c1 c2 c3 c4 c5, .int .i64 me] w fun e w' => e = .returned (.bool true) ∧ Kept [] w w' := by
  have HBX := hid (blk_alloc_new w (cfgO c0 c1 c2 c3 c4 c5))
  unfold cfg
  have HF := hid hf
  have HM := hid hm
  obtain ⟨⟨h1, h2⟩, ⟨h3, h4⟩, h5, ⟨h6, h7⟩, ⟨h8, h9⟩, ⟨h10, h11⟩⟩ := hf
  by_cases hm0 : me < 0
  · clear hm
    go_enter Try.func3, Try.ntmps3
    go_wp2_with fail
    refine (awake_true _).mono ?_
    rintro e w1 ⟨rfl, hK1⟩
    have K1 := hid ((kept_new (w := w) _).trans hK1)
    have B1 := hid (hK1.blk (HBX.out) (by simp) : w1.heap[w.heap.size]? = some (cfgO c0 c1 c2 c3 c4 c5))
    have d0a : w1.cell? ⟨w.heap.size, 0, none⟩ = some (.int .i64 c0) := (cell_of B1.out).trans rfl
    have d1a : w1.cell? ⟨w.heap.size, 1, none⟩ = some (.int .i64 c1) := (cell_of B1.out).trans rfl
    have d2a : w1.cell? ⟨w.heap.size, 2, none⟩ = some (.int .i64 c2) := (cell_of B1.out).trans rfl
    have d3a : w1.cell? ⟨w.heap.size, 3, none⟩ = some (.int .i64 c3) := (cell_of B1.out).trans rfl
    have d4a : w1.cell? ⟨w.heap.size, 4, none⟩ = some (.int .i64 c4) := (cell_of B1.out).trans rfl
    have d5a : w1.cell? ⟨w.heap.size, 5, none⟩ = some (.int .i64 c5) := (cell_of B1.out).trans rfl
    clear hK1
    go_wp2_with fail
    refine (new_me c0 c1 c2 c3 c4 c5 HF.out me HM.out w1).mono ?_
    rintro e w2 ⟨rfl, hK2⟩
    have K2 := hid (K1.out.trans hK2)
    have B2 := hid (hK2.blk B1.out (by simp))
    have d0b : w2.cell? ⟨w.heap.size, 0, none⟩ = some (.int .i64 c0) := (cell_of B2.out).trans rfl
    have d1b : w2.cell? ⟨w.heap.size, 1, none⟩ = some (.int .i64 c1) := (cell_of B2.out).trans rfl
    have d2b : w2.cell? ⟨w.heap.size, 2, none⟩ = some (.int .i64 c2) := (cell_of B2.out).trans rfl
    have d3b : w2.cell? ⟨w.heap.size, 3, none⟩ = some (.int .i64 c3) := (cell_of B2.out).trans rfl
    have d4b : w2.cell? ⟨w.heap.size, 4, none⟩ = some (.int .i64 c4) := (cell_of B2.out).trans rfl
    have d5b : w2.cell? ⟨w.heap.size, 5, none⟩ = some (.int .i64 c5) := (cell_of B2.out).trans rfl
    clear hK2
    go_wp2_with fail
    refine (form_ok c0 c1 c2 c3 c4 c5 HF.out w2).mono ?_
    rintro e w3 ⟨rfl, hK3⟩
    have B3 := hid (hK3.blk B2.out (by simp))
    have d0c : w3.cell? ⟨w.heap.size, 0, none⟩ = some (.int .i64 c0) := (cell_of B3.out).trans rfl
    have d1c : w3.cell? ⟨w.heap.size, 1, none⟩ = some (.int .i64 c1) := (cell_of B3.out).trans rfl
    have d2c : w3.cell? ⟨w.heap.size, 2, none⟩ = some (.int .i64 c2) := (cell_of B3.out).trans rfl
    have d3c : w3.cell? ⟨w.heap.size, 3, none⟩ = some (.int .i64 c3) := (cell_of B3.out).trans rfl
    have d4c : w3.cell? ⟨w.heap.size, 4, none⟩ = some (.int .i64 c4) := (cell_of B3.out).trans rfl
    have d5c : w3.cell? ⟨w.heap.size, 5, none⟩ = some (.int .i64 c5) := (cell_of B3.out).trans rfl
    go_wp2
    go_ret
    exact ⟨rfl, K2.out.trans hK3⟩
  · have hm1 : c0 ≤ me := by omega
    clear hm
    go_enter Try.func3, Try.ntmps3
    go_wp2_with fail
    refine (awake_true _).mono ?_
    rintro e w1 ⟨rfl, hK1⟩
    have K1 := hid ((kept_new (w := w) _).trans hK1)
    have B1 := hid (hK1.blk (HBX.out) (by simp) : w1.heap[w.heap.size]? = some (cfgO c0 c1 c2 c3 c4 c5))
    have d0a : w1.cell? ⟨w.heap.size, 0, none⟩ = some (.int .i64 c0) := (cell_of B1.out).trans rfl
    have d1a : w1.cell? ⟨w.heap.size, 1, none⟩ = some (.int .i64 c1) := (cell_of B1.out).trans rfl
    have d2a : w1.cell? ⟨w.heap.size, 2, none⟩ = some (.int .i64 c2) := (cell_of B1.out).trans rfl
    have d3a : w1.cell? ⟨w.heap.size, 3, none⟩ = some (.int .i64 c3) := (cell_of B1.out).trans rfl
    have d4a : w1.cell? ⟨w.heap.size, 4, none⟩ = some (.int .i64 c4) := (cell_of B1.out).trans rfl
    have d5a : w1.cell? ⟨w.heap.size, 5, none⟩ = some (.int .i64 c5) := (cell_of B1.out).trans rfl
    clear hK1
    go_wp2_with fail
    refine (new_me c0 c1 c2 c3 c4 c5 HF.out me HM.out w1).mono ?_
    rintro e w2 ⟨rfl, hK2⟩
    have K2 := hid (K1.out.trans hK2)
    have B2 := hid (hK2.blk B1.out (by simp))
    have d0b : w2.cell? ⟨w.heap.size, 0, none⟩ = some (.int .i64 c0) := (cell_of B2.out).trans rfl
    have d1b : w2.cell? ⟨w.heap.size, 1, none⟩ = some (.int .i64 c1) := (cell_of B2.out).trans rfl
    have d2b : w2.cell? ⟨w.heap.size, 2, none⟩ = some (.int .i64 c2) := (cell_of B2.out).trans rfl
    have d3b : w2.cell? ⟨w.heap.size, 3, none⟩ = some (.int .i64 c3) := (cell_of B2.out).trans rfl
    have d4b : w2.cell? ⟨w.heap.size, 4, none⟩ = some (.int .i64 c4) := (cell_of B2.out).trans rfl
    have d5b : w2.cell? ⟨w.heap.size, 5, none⟩ = some (.int .i64 c5) := (cell_of B2.out).trans rfl
    clear hK2
    go_wp2_with fail
    refine (form_ok c0 c1 c2 c3 c4 c5 HF.out w2).mono ?_
    rintro e w3 ⟨rfl, hK3⟩
    have B3 := hid (hK3.blk B2.out (by simp))
    have d0c : w3.cell? ⟨w.heap.size, 0, none⟩ = some (.int .i64 c0) := (cell_of B3.out).trans rfl
    have d1c : w3.cell? ⟨w.heap.size, 1, none⟩ = some (.int .i64 c1) := (cell_of B3.out).trans rfl
    have d2c : w3.cell? ⟨w.heap.size, 2, none⟩ = some (.int .i64 c2) := (cell_of B3.out).trans rfl
    have d3c : w3.cell? ⟨w.heap.size, 3, none⟩ = some (.int .i64 c3) := (cell_of B3.out).trans rfl
    have d4c : w3.cell? ⟨w.heap.size, 4, none⟩ = some (.int .i64 c4) := (cell_of B3.out).trans rfl
    have d5c : w3.cell? ⟨w.heap.size, 5, none⟩ = some (.int .i64 c5) := (cell_of B3.out).trans rfl
    go_wp2
    go_ret
    exact ⟨rfl, K2.out.trans hK3⟩
set_option maxRecDepth 100000 in
set_option maxHeartbeats 4000000 in
theorem good (w : World) (c0 c1 c2 c3 c4 c5 me : Int) (hf : okForm c0 c1 c2 c3 c4 c5) (hm : ¬ (me < 0 ∨ c0 ≤ me)) :
    Calls Try.prog 3 #[cfg c0 c1 c2 c3 c4 c5, .int .i64 me] w fun e w' => e = .returned (.bool true) ∧ Kept [] w w' := by
  have HBX := hid (blk_alloc_new w (cfgO c0 c1 c2 c3 c4 c5))
  unfold cfg
  have HF := hid hf
  obtain ⟨⟨h1, h2⟩, ⟨h3, h4⟩, h5, ⟨h6, h7⟩, ⟨h8, h9⟩, ⟨h10, h11⟩⟩ := hf
  obtain ⟨nn, rfl⟩ : ∃ nn : Nat, c0 = (nn : Int) := ⟨c0.toNat, by omega⟩
  obtain ⟨bt, rfl⟩ : ∃ bt : Nat, c1 = (bt : Int) := ⟨c1.toNat, by omega⟩
  obtain ⟨ms, rfl⟩ : ∃ ms : Nat, c2 = (ms : Int) := ⟨c2.toNat, by omega⟩
  obtain ⟨m, rfl⟩ : ∃ m : Nat, me = (m : Int) := ⟨me.toNat, by omega⟩
  have hm0 : ¬ (m : Int) < 0 := by omega
  have hm1 : ¬ (nn : Int) ≤ (m : Int) := by omega
  have hm2 : ¬ nn ≤ m := by omega
  have hm3 : m < nn := by omega
  have hm4 : m < 16 := by omega
  clear hm
  go_enter Try.func3, Try.ntmps3
  go_wp2_with fail
  refine (awake_true _).mono ?_
  rintro e w1 ⟨rfl, hK1⟩
  have K1 := hid ((kept_new (w := w) _).trans hK1)
  have B1 := hid (hK1.blk (HBX.out) (by simp) : w1.heap[w.heap.size]? = some (cfgO (nn : Int) (bt : Int) (ms : Int) c3 c4 c5))
  have d0a : w1.cell? ⟨w.heap.size, 0, none⟩ = some (.int .i64 (nn : Int)) := (cell_of B1.out).trans rfl
  have d1a : w1.cell? ⟨w.heap.size, 1, none⟩ = some (.int .i64 (bt : Int)) := (cell_of B1.out).trans rfl
  have d2a : w1.cell? ⟨w.heap.size, 2, none⟩ = some (.int .i64 (ms : Int)) := (cell_of B1.out).trans rfl
  have d3a : w1.cell? ⟨w.heap.size, 3, none⟩ = some (.int .i64 c3) := (cell_of B1.out).trans rfl
  have d4a : w1.cell? ⟨w.heap.size, 4, none⟩ = some (.int .i64 c4) := (cell_of B1.out).trans rfl
  have d5a : w1.cell? ⟨w.heap.size, 5, none⟩ = some (.int .i64 c5) := (cell_of B1.out).trans rfl
  clear hK1
  go_wp2_with fail
  refine (beat_new nn m bt ms c3 c4 c5 HF.out hm3 w1).mono ?_
  rintro e w2 ⟨bb, C, ev, rfl, hT, hK2, hC⟩
  have hev : ev = setIn 0 m := set_eq hT.nums.2.2.2.2.2.2.2 (setIn_lt _ _) (fun j hj => by rw [hT.bits j hj, setIn_bit _ _ _ hj]; simp [eq_comm])
  subst hev
  have K2 := hid (K1.out.trans hK2)
  have B2 := hid (hK2.blk B1.out (by simp))
  have HT := hid hT
  have d0b : w2.cell? ⟨w.heap.size, 0, none⟩ = some (.int .i64 (nn : Int)) := (cell_of B2.out).trans rfl
  have d1b : w2.cell? ⟨w.heap.size, 1, none⟩ = some (.int .i64 (bt : Int)) := (cell_of B2.out).trans rfl
  have d2b : w2.cell? ⟨w.heap.size, 2, none⟩ = some (.int .i64 (ms : Int)) := (cell_of B2.out).trans rfl
  have d3b : w2.cell? ⟨w.heap.size, 3, none⟩ = some (.int .i64 c3) := (cell_of B2.out).trans rfl
  have d4b : w2.cell? ⟨w.heap.size, 4, none⟩ = some (.int .i64 c4) := (cell_of B2.out).trans rfl
  have d5b : w2.cell? ⟨w.heap.size, 5, none⟩ = some (.int .i64 c5) := (cell_of B2.out).trans rfl
  clear hK2 hT hC
  go_wp2_with fail
  refine (form_ok (nn : Int) (bt : Int) (ms : Int) c3 c4 c5 HF.out w2).mono ?_
  rintro e w3 ⟨rfl, hK3⟩
  have B3 := hid (hK3.blk B2.out (by simp))
  have HT3 := hid (HT.out.still hK3)
  have K3 := hid (K2.out.trans hK3)
  have d0c : w3.cell? ⟨w.heap.size, 0, none⟩ = some (.int .i64 (nn : Int)) := (cell_of B3.out).trans rfl
  have d1c : w3.cell? ⟨w.heap.size, 1, none⟩ = some (.int .i64 (bt : Int)) := (cell_of B3.out).trans rfl
  have d2c : w3.cell? ⟨w.heap.size, 2, none⟩ = some (.int .i64 (ms : Int)) := (cell_of B3.out).trans rfl
  have d3c : w3.cell? ⟨w.heap.size, 3, none⟩ = some (.int .i64 c3) := (cell_of B3.out).trans rfl
  have d4c : w3.cell? ⟨w.heap.size, 4, none⟩ = some (.int .i64 c4) := (cell_of B3.out).trans rfl
  have d5c : w3.cell? ⟨w.heap.size, 5, none⟩ = some (.int .i64 c5) := (cell_of B3.out).trans rfl
  clear hK3
  go_wp2_with fail
  refine (est_any HT3.out).mono ?_
  rintro e w4 ⟨rfl, rfl⟩
  go_wp2_with fail
  refine (rwith_zero m hm4 w3).mono ?_
  rintro e w4 ⟨rfl, rfl⟩
  go_wp2
  go_ret
  exact ⟨rfl, K3.out⟩
theorem walk (w : World) (c0 c1 c2 c3 c4 c5 me : Int) (_ : -9223372036854775808 ≤ me ∧ me ≤ 9223372036854775807) : Calls Try.prog 3 #[cfg c0 c1 c2 c3 c4 c5, .int .i64 me] w fun e w' => e = .returned (.bool true) ∧ Kept [] w w' := by
  by_cases hf : okForm c0 c1 c2 c3 c4 c5
  · by_cases hm : me < 0 ∨ c0 ≤ me
    · exact notme w c0 c1 c2 c3 c4 c5 me hf hm
    · exact good w c0 c1 c2 c3 c4 c5 me hf hm
  · exact bad w c0 c1 c2 c3 c4 c5 me hf
end BeatForms
end Go.Proofs.Ytkemkoiknoefdaa
