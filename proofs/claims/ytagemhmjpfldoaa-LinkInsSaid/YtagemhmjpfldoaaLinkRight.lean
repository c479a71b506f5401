/- The law's own helper 'right': what was taken there is a beginning of what was put here. -/
import Derived.Test.YtagemhmjpfldoaaLinkActBase
namespace Go.Proofs.Ytagemhmjpfldoaa
open Go.RowKit
set_option linter.unusedVariables false
set_option linter.unusedSimpArgs false

theorem LSt.acked_q {w : World} {E : Ends} {m win acked next : Nat} {lo li : List Value} (h : LSt.Link w E m win acked lo next li) : ∀ k, Calls Try.prog 26 #[.pointer (some ⟨E.k, 0, none⟩)] (w.drewN k) fun e w'' => e = .returned (.int .u64 (acked : Int)) ∧ w'' = w.drewN k :=
  fun k => (LSt.acked_any (h.still (Kept.drewN [] _ k))).mono (by rintro e w' ⟨rfl, rfl⟩; exact ⟨rfl, rfl⟩)
theorem LSt.got_q {w : World} {E : Ends} {m win acked next : Nat} {lo li : List Value} (h : LSt.Link w E m win acked lo next li) : ∀ k, Calls Try.prog 28 #[.pointer (some ⟨E.k, 0, none⟩)] (w.drewN k) fun e w'' => e = .returned (.int .u64 (next : Int)) ∧ w'' = w.drewN k :=
  fun k => (LSt.got_any (h.still (Kept.drewN [] _ k))).mono (by rintro e w' ⟨rfl, rfl⟩; exact ⟨rfl, rfl⟩)
theorem LIn.acked_q {w : World} {E : Ends} {m win acked next : Nat} {lo li : List Value} (h : LIn.Link w E m win acked lo next li) : ∀ k, Calls Try.prog 22 #[.pointer (some ⟨E.k, 0, none⟩)] (w.drewN k) fun e w'' => e = .returned (.int .u64 (acked : Int)) ∧ w'' = w.drewN k :=
  fun k => (LIn.acked_any (h.still (Kept.drewN [] _ k))).mono (by rintro e w' ⟨rfl, rfl⟩; exact ⟨rfl, rfl⟩)
theorem LIn.got_q {w : World} {E : Ends} {m win acked next : Nat} {lo li : List Value} (h : LIn.Link w E m win acked lo next li) : ∀ k, Calls Try.prog 21 #[.pointer (some ⟨E.k, 0, none⟩)] (w.drewN k) fun e w'' => e = .returned (.int .u64 (next : Int)) ∧ w'' = w.drewN k :=
  fun k => (LIn.got_any (h.still (Kept.drewN [] _ k))).mono (by rintro e w' ⟨rfl, rfl⟩; exact ⟨rfl, rfl⟩)

theorem pre_get {g p : List Value} (h : g = p.take g.length) {i : Nat} (hi : i < g.length) (hp : i < p.length) : g[i] = p[i] := by
  have h2 : g[i]? = (p.take g.length)[i]? := by rw [← h]
  rw [List.getElem?_take, if_pos hi, List.getElem?_eq_getElem hi, List.getElem?_eq_getElem hp] at h2
  exact Option.some.inj h2

set_option maxRecDepth 100000 in
set_option maxHeartbeats 4000000 in
theorem right_any {w0 : World} {T : Nat → Nat} {w : World} {wb : Nat} {A B : Ends} {m win : Nat} {V : Six} {lA lB : List (Pk × Value)} {s : St} (h : Wo w0 T w wb A B m win V lA lB s) (hinv : Inv m win s) (hsm : Small 100000 s) :
    Calls Try.prog 13 #[.pointer (some ⟨wb, 0, none⟩)] w fun e w' => e = .returned (.bool true) ∧ ∃ k, w' = w.drewN k := by
  have hA := hinv.ab
  have hB := hinv.ba
  have l1 : s.gA.length ≤ s.pB.length := by have := hB.gn; have := hB.np; omega
  have l2 : s.gB.length ≤ s.pA.length := by have := hA.gn; have := hA.np; omega
  have m1 : s.pB.length ≤ 100000 := hsm.pB
  have m2 : s.pA.length ≤ 100000 := hsm.pA
  have d1 : decide (s.pB.length < s.gA.length) = false := by simp; omega
  have d2 : decide (s.pA.length < s.gB.length) = false := by simp; omega
  have d3 : decide (s.nxB < s.ackA) = false := by have := hA.an; simp; omega
  have d4 : decide (s.nxA < s.ackB) = false := by have := hB.an; simp; omega
  have i1 : ¬ (s.pB.length : Int) < (s.gA.length : Int) := by omega
  have i2 : ¬ (s.pA.length : Int) < (s.gB.length : Int) := by omega
  have i3 : ¬ (s.nxB : Int) < (s.ackA : Int) := by have := hA.an; omega
  have i4 : ¬ (s.nxA : Int) < (s.ackB : Int) := by have := hB.an; omega
  obtain ⟨a1, n1, c1, h1⟩ := h.gA.form'
  obtain ⟨a2, n2, c2, h2⟩ := h.gB.form'
  obtain ⟨a3, n3, c3, h3⟩ := h.pA.form'
  obtain ⟨a4, n4, c4, h4⟩ := h.pB.form'
  have s1 := h.gA.sl
  have s2 := h.gB.sl
  have s3 := h.pA.sl
  have s4 := h.pB.sl
  obtain ⟨w1, w2, w3, w4, w5, w6, _, _⟩ := h.cells
  rw [h3] at w3 s3
  rw [h4] at w4 s4
  rw [h1] at w5 s1
  rw [h2] at w6 s2
  obtain ⟨rfl, b1, _⟩ := s1.len
  obtain ⟨rfl, b2, _⟩ := s2.len
  obtain ⟨rfl, b3, _⟩ := s3.len
  obtain ⟨rfl, b4, _⟩ := s4.len
  have p1 := hid hB.pre
  have p2 := hid hA.pre
  have o1 := hid h.oB
  have o2 := hid h.oA
  have Q1 := hid (LSt.acked_q h.a)
  have Q2 := hid (LSt.got_q h.a)
  have Q3 := hid (LIn.acked_q h.b)
  have Q4 := hid (LIn.got_q h.b)
  clear hA hB h1 h2 h3 h4 b1 b2 b3 b4
  clear hinv hsm h
  go_enter Try.func13, Try.ntmps13
  go_wp2
  go_quiet (first
    | (go_at_call 26; exact Calls.quiet_of_same (Q1.out _))
    | (go_at_call 28; exact Calls.quiet_of_same (Q2.out _))
    | (go_at_call 22; exact Calls.quiet_of_same (Q3.out _))
    | (go_at_call 21; exact Calls.quiet_of_same (Q4.out _)))
  go_wp2
  go_loopw [3] (fun iv wr => ∃ i kd : Nat, i ≤ s.gA.length ∧ iv = .int .i64 (i : Int) ∧ wr = w.drewN kd) (fun iv _ => s.gA.length - (intOf iv).toNat)
  case atStart => exact ⟨0, _, by omega, rfl, rfl⟩
  case round =>
    obtain ⟨i, kd, hi, rfl, rfl⟩ := hrel
    by_cases hlt : i < s.gA.length
    · have hlt2 : i < s.pB.length := by omega
      obtain ⟨g, off, rfl, hc⟩ := s1.cell hlt
      obtain ⟨g2, off2, rfl, hc2⟩ := s4.cell hlt2
      obtain ⟨z, hx⟩ := o1.out _ (List.getElem_mem hlt2)
      rw [pre_get p1.out hlt hlt2, hx] at hc
      rw [hx] at hc2
      clear hx
      go_wp2
      go_quiet (fail)
      go_wp2
      go_roundw
      case rel => exact ⟨i + 1, _, by omega, by go_num, rfl⟩
      case measure => simp [intOf]; omega
    · go_wp2
      go_loopw [4] (fun iv wr => ∃ i kd : Nat, i ≤ s.gB.length ∧ iv = .int .i64 (i : Int) ∧ wr = w.drewN kd) (fun iv _ => s.gB.length - (intOf iv).toNat)
      case atStart => exact ⟨0, _, by omega, rfl, rfl⟩
      case round =>
        obtain ⟨i, kd, hi2, rfl, rfl⟩ := hrel
        by_cases hlt2 : i < s.gB.length
        · have hlt3 : i < s.pA.length := by omega
          obtain ⟨g, off, rfl, hc⟩ := s2.cell hlt2
          obtain ⟨g2, off2, rfl, hc2⟩ := s3.cell hlt3
          obtain ⟨z, hx⟩ := o2.out _ (List.getElem_mem hlt3)
          rw [pre_get p2.out hlt2 hlt3, hx] at hc
          rw [hx] at hc2
          clear hx
          go_wp2
          go_quiet (fail)
          go_wp2
          go_roundw
          case rel => exact ⟨i + 1, _, by omega, by go_num, rfl⟩
          case measure => simp [intOf]; omega
        · go_wp2
          go_ret
          exact ⟨rfl, _, rfl⟩
end Go.Proofs.Ytagemhmjpfldoaa
