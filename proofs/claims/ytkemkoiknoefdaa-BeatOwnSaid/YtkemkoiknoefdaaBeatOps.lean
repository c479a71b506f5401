/- The beat: New, Heard. -/
import Derived.Test.YtkemkoiknoefdaaBeatBase
namespace Go.Proofs.Ytkemkoiknoefdaa
open Go.RowKit
set_option linter.unusedVariables false
set_option linter.unusedSimpArgs false

theorem quiet_here {P : Program} {f : FuncId} {args : Array Value} {W : World} {v : Value} (h : Calls P f args W fun e w' => e = .returned v ∧ W = w') : Calls P f args W fun e w'' => e = .returned v ∧ w'' = W :=
  h.mono fun _ _ ⟨he, hm⟩ => ⟨he, hm.symm⟩
theorem with_zero (i : Nat) (hi : i < 16) (w : World) : Calls Try.prog 18 #[.int .u16 0, .int .i64 (i : Int)] w fun e w' => e = .returned (.int .u16 (setIn 0 i : Int)) ∧ w = w' := with_any 0 i (by omega) hi w
def BNew (w : World) (nn me beat miss : Nat) (r : Ending) (w' : World) : Prop :=
  ∃ bb C e, r = .returned (.tuple #[.pointer (some ⟨bb, 0, none⟩), .int .i64 0]) ∧ BT w' bb C nn me beat miss 0 1 1 (fun _ => 0) e ∧ Kept [] w w' ∧ ∀ k, C k → w.heap.size ≤ k
set_option maxRecDepth 100000 in
set_option maxHeartbeats 2000000 in
theorem beat_new (nn me beat miss : Nat) (c3 c4 c5 : Int) (hf : okForm (nn : Int) (beat : Int) (miss : Int) c3 c4 c5) (hm : me < nn) (w : World) :
    Calls Try.prog 9 #[cfg (nn : Int) (beat : Int) (miss : Int) c3 c4 c5, .int .i64 (me : Int)] w (BNew w nn me beat miss) := by
  have HF := hid hf
  obtain ⟨⟨h1, h2⟩, ⟨h3, h4⟩, h5, ⟨h6, h7⟩, ⟨h8, h9⟩, ⟨h10, h11⟩⟩ := hf
  have hmi : (me : Int) < (nn : Int) := by omega
  have hnn : nn ≤ 16 := by omega
  have hbx := blk_alloc_new w (cfgO (nn : Int) (beat : Int) (miss : Int) c3 c4 c5)
  unfold cfg
  go_enter Try.func9, Try.ntmps9
  go_wp2_with fail
  refine (form_ok (nn : Int) (beat : Int) (miss : Int) c3 c4 c5 HF.out _).mono ?_
  rintro e w1 ⟨rfl, hk1⟩
  have b1 := hk1.blk hbx (by simp)
  have c0 : w1.cell? ⟨w.heap.size, 0, none⟩ = some (.int .i64 (nn : Int)) := (cell_of b1).trans rfl
  have HK1 := hid ((kept_new (w := w) _).trans hk1)
  have B1 := hid b1
  clear hk1 b1 hbx
  go_wp2_with fail
  refine (wr_new 0 w1 (by omega)).mono ?_
  rintro e w2 ⟨wb, B, rfl, hR, hk2, hB⟩
  have HK2 := hid (HK1.out.trans hk2)
  have B2 := hid (hk2.blk B1.out (by simp))
  have HB := hid (fun k hk => by have := HK1.out.size; have := hB k hk; omega : ∀ k, B k → w.heap.size ≤ k)
  have NB := hid (fun hb => by have := hB _ hb; have := lt_of_blk B1.out; omega : ¬ B w.heap.size)
  have HR := hid hR
  clear hk2 hB hR c0
  go_wp2_with fail
  refine (wr_arm HR.out 16 (by decide) 1 (by omega) (by omega) (by omega)).mono ?_
  rintro e w3 ⟨rfl, B3, hR3, hS⟩
  obtain ⟨hK3, hB3⟩ := hS.base HK2.out HB.out
  have b3 := hS.blk B2.out NB.out
  have c0 : w3.cell? ⟨w.heap.size, 0, none⟩ = some (.int .i64 (nn : Int)) := (cell_of b3).trans rfl
  have c1 : w3.cell? ⟨w.heap.size, 1, none⟩ = some (.int .i64 (beat : Int)) := (cell_of b3).trans rfl
  have c2 : w3.cell? ⟨w.heap.size, 2, none⟩ = some (.int .i64 (miss : Int)) := (cell_of b3).trans rfl
  have HR3 := hid hR3
  have HK3 := hid hK3
  have HB3 := hid hB3
  clear hS hR3 hK3 hB3 b3 HK1 HK2 HB HR NB B1 B2
  go_wp2
  refine wp_region_quiet_tail 13 (by kernel_rfl) (by kernel_rfl) ?_
  simp only [List.take_succ_cons, List.take_zero, List.drop_succ_cons, List.drop_zero]
  repeat (go_big_quiet_step (fail))
  go_big_quiet_want
  go_big_quiet_op
  refine ⟨_, quiet_here (with_zero me (by omega) _), ?_⟩
  go_big_quiet_on
  repeat (go_big_quiet_step (fail))
  refine wpQuiet_nil ?_
  go_wp2
  go_ret2
  have hlL : less [] 16 ++ [⟨0 + 1, 16, 0 + 1⟩] = [⟨1, 16, 1⟩] := rfl
  have hR4 := HR3.out
  rw [hlL] at hR4
  have hk4 : Kept [] w3 (w3.drew.alloc (.cells #[.int .i64 (nn : Int), .int .i64 (me : Int), .int .u64 (beat : Int), .int .u64 (miss : Int), .pointer (some ⟨wb, 0, none⟩), .int .u16 (setIn 0 me : Int)] 48)) := ⟨rfl, rfl, rfl, by simp, fun k hk _ => Below.heap_alloc _ _ _ hk⟩
  have hsz := HK3.out.size
  refine ⟨w3.heap.size, fun k => k = w3.heap.size ∨ B3 k, setIn 0 me, rfl, ⟨⟨wb, B3, _, blk_alloc_new w3.drew _, hR4.still hk4, fun hb => by have := hR4.lt hb; omega, fun k => Iff.rfl, ⟨fun t ht => by simp at ht; subst ht; exact .inl ⟨rfl, rfl⟩, ⟨_, by simp; rfl, rfl⟩, fun j hj h => by simp at h⟩⟩, ⟨hnn, hm, by omega, by omega, by omega, by omega, by omega, setIn_lt _ _⟩, fun j hj => by rw [setIn_bit _ _ _ hj]; simp [eq_comm], rfl⟩, HK3.out.trans hk4, fun k hk => ?_⟩
  rcases hk with rfl | hk
  · exact hsz
  · exact HB3.out k hk
def BHeard (w : World) (bb : Nat) (C : Nat → Prop) (nn me beat miss now n D : Nat) (H : Nat → Nat) (j : Nat) (r : Ending) (w' : World) : Prop :=
  r = .returned (.int .i64 0) ∧ ∃ C' e', BT w' bb C' nn me beat miss now (n + 1) D (upd H j (now + miss)) e' ∧ Step w w' C C'
set_option maxRecDepth 100000 in
set_option maxHeartbeats 2000000 in
theorem heard_ok {w : World} {bb nn me beat miss now n D e : Nat} {C : Nat → Prop} {H : Nat → Nat} (h : BT w bb C nn me beat miss now n D H e) (j : Nat) (hj : j < nn) (hs : j ≠ me) (hn : n < 1000000) (hnow : now ≤ 1000000) :
    Calls Try.prog 15 #[.pointer (some ⟨bb, 0, none⟩), .int .i64 (j : Int)] w (BHeard w bb C nn me beat miss now n D H j) := by
  obtain ⟨wb, B, L, h1, h2, h3, h4, h5⟩ := h.ex
  obtain ⟨n1, n2, n3, n4, n5, n6, n7, n8⟩ := h.nums
  have hbits := h.bits
  have hnone := h.none
  have c0 : w.cell? ⟨bb, 0, none⟩ = some (.int .i64 (nn : Int)) := (cell_of h1).trans rfl
  have c1 : w.cell? ⟨bb, 1, none⟩ = some (.int .i64 (me : Int)) := (cell_of h1).trans rfl
  have c5 : w.cell? ⟨bb, 5, none⟩ = some (.int .u16 (e : Int)) := (cell_of h1).trans rfl
  have f5 : w.frozen? ⟨bb, 5, none⟩ = false := frozen_of h1
  have hji : (j : Int) < (nn : Int) := by omega
  have hjs : ((j : Int) == (me : Int)) = false := beq_eq_false_iff_ne.2 (by omega)
  have b1 : (w.setCell ⟨bb, 5, none⟩ (.int .u16 (setIn e j : Int))).heap[bb]? = some (.cells #[.int .i64 (nn : Int), .int .i64 (me : Int), .int .u64 (beat : Int), .int .u64 (miss : Int), .pointer (some ⟨wb, 0, none⟩), .int .u16 (setIn e j : Int)] 48 (0, 0)) := by have := blk_set (o := 5) h1 (.int .u16 (setIn e j : Int)); simpa using this
  have hset : Kept [bb] w (w.setCell ⟨bb, 5, none⟩ (.int .u16 (setIn e j : Int))) := (Kept.refl _ _).setCell (by simp) _
  obtain ⟨w1, hw1⟩ : ∃ w1, w1 = w.setCell ⟨bb, 5, none⟩ (.int .u16 (setIn e j : Int)) := ⟨_, rfl⟩
  rw [← hw1] at b1 hset
  have hR1 := h2.kept hset (fun k hk => by simp at hk; subst hk; exact h3)
  have d3 : w1.cell? ⟨bb, 3, none⟩ = some (.int .u64 (miss : Int)) := (cell_of b1).trans rfl
  have d4 : w1.cell? ⟨bb, 4, none⟩ = some (.pointer (some ⟨wb, 0, none⟩)) := (cell_of b1).trans rfl
  have HR1 := hid hR1
  have HB1 := hid b1
  have HSET := hid hset
  have HW1 := hid hw1
  have H3 := hid h3
  have H4 := hid h4
  have H5 := hid h5
  have HBITS := hid hbits
  have HNONE := hid hnone
  have hbl := hid (lt_of_blk h1)
  clear h h1 h2 h3 h4 h5 hbits hnone b1 hset hw1 hR1
  go_enter Try.func15, Try.ntmps15
  go_wp2_with fail
  refine (with_any e j n8 (by omega) w).mono ?_
  rintro r w' ⟨rfl, rfl⟩
  go_wp2
  rw [← HW1.out]
  refine wp_region_quiet_tail 9 (by kernel_rfl) (by kernel_rfl) ?_
  simp only [List.take_succ_cons, List.take_zero, List.drop_succ_cons, List.drop_zero]
  repeat (go_big_quiet_step (fail))
  refine wpQuiet_nil ?_
  go_wp2_with fail
  refine (wr_arm (HR1.out.still (w' := w1.drew) ⟨rfl, rfl, rfl, Nat.le_refl _, fun _ _ _ => rfl⟩) (j : Int) (wf_int (by omega) (by omega)) miss n5 (by omega) hn).mono ?_
  rintro r w3 ⟨rfl, B3, hR3, hS⟩
  have hS' : Step w1 w3 B B3 := by obtain ⟨S, s1, s2, s3⟩ := hS; exact ⟨S, ⟨s1.os, s1.tape, s1.output, s1.size, s1.block⟩, s2, s3⟩
  have b3 := hS'.blk HB1.out H3.out
  have hS2 : Step w w3 C (fun k => k = bb ∨ B3 k) := by
    have hs0 : Step w w1 C C := ⟨[bb], HSET.out, fun k hk => by simp at hk; subst hk; exact .inl ((H4.out _).2 (.inl rfl)), fun k hk => .inl hk⟩
    refine hs0.trans ?_
    obtain ⟨S, s1, s2, s3⟩ := hS'
    refine ⟨S, s1, fun k hk => (s2 k hk).imp (fun hb => (H4.out k).2 (.inr hb)) id, fun k hk => ?_⟩
    rcases hk with rfl | hk
    · exact .inl ((H4.out _).2 (.inl rfl))
    · exact (s3 k hk).imp (fun hb => (H4.out k).2 (.inr hb)) id
  have HF := hid (⟨⟨wb, B3, _, b3, hR3, hS'.nb (lt_of_blk HB1.out) H3.out, fun k => Iff.rfl, H5.out.heard (by omega) hs⟩, ⟨n1, n2, n3, n4, n5, n6, n7, setIn_lt _ _⟩, fun i hi => by
    rw [setIn_bit _ _ _ hi, HBITS.out i hi]
    by_cases e1 : i = j
    · subst e1; rw [upd_same]; simp; omega
    · rw [upd_other _ _ e1]; simp [Ne.symm e1, show ¬ j = i from fun x => e1 x.symm], by rw [upd_other _ _ (Ne.symm hs)]; exact HNONE.out⟩ : BT w3 bb (fun k => k = bb ∨ B3 k) nn me beat miss now (n + 1) D (upd H j (now + miss)) (setIn e j))
  have HS2 := hid hS2
  clear hS hS' b3 hR3 hS2
  go_wp2
  go_ret
  exact ⟨rfl, _, _, HF.out, HS2.out⟩
end Go.Proofs.Ytkemkoiknoefdaa
