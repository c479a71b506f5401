/- The law's own helper 'act', one arm of it. -/
import Derived.Test.YtagemhmjpfldoaaLinkActBase
namespace Go.Proofs.Ytagemhmjpfldoaa
open Go.RowKit
set_option linter.unusedVariables false
set_option linter.unusedSimpArgs false

set_option maxRecDepth 100000 in
set_option maxHeartbeats 8000000 in
theorem act8 {w0 : World} {T : Nat → Nat} {w : World} {wb : Nat} {A B : Ends} {m win : Nat} {V : Six} {lA lB : List (Pk × Value)} {s : St} (h : Wo w0 T w wb A B m win V lA lB s) 
    (k : Int) (hk1 : 0 ≤ k) (hk2 : k ≤ 255) (hn0 : ¬ k % 9 = 0) (hn1 : ¬ k % 9 = 1) (hn2 : ¬ k % 9 = 2) (hn3 : ¬ k % 9 = 3) (hn4 : ¬ k % 9 = 4) (hn5 : ¬ k % 9 = 5) (hn6 : ¬ k % 9 = 6) (hn7 : ¬ k % 9 = 7) (x : ByteArray) (n : Int) (hn1 : -9223372036854775808 ≤ n) (hn2 : n ≤ 9223372036854775807) :
    Calls Try.prog 12 #[.pointer (some ⟨wb, 0, none⟩), .agg #[.int .u8 k, .string x, .int .i64 n]] w (ActPost w0 wb A B m win s.lose) := by
  have hal : Kept [] w (w.alloc (.cells #[.int .u8 k, .string x, .int .i64 n] 28)) := (Kept.refl _ _).alloc _
  have h1 := h.still hal 0
  have H := hid h
  have H1 := hid h1
  have HAL := hid hal
  have c0 := h1.cells.2.2.2.2.2.2.2
  clear h h1 hal
  rcases lB with _ | ⟨q, l⟩
  · obtain ⟨a, cap, hv, _, _⟩ := H.out.tB.form
    have hst : s.lose = s := by
      have := H.out.fB
      unfold St.lose
      rw [this]
      cases s
      simp at this
      subst this
      rfl
    rw [hst]
    rw [hv] at c0
    simp only [List.length_nil] at c0
    go_enter Try.func12, Try.ntmps12
    go_wp2
    go_end0
    exact ⟨⟨_, rfl⟩, _, _, _, _, H1.out⟩
  · obtain ⟨g, off, cap, hv, hcap⟩ : ∃ g off cap, V.tB = .slice (some ⟨g, off, none⟩) (l.length + 1) cap ∧ l.length + 1 ≤ cap := by
      obtain ⟨hl, ⟨h, h0⟩ | ⟨g, off, cap, c, h, _, _, hn, _⟩⟩ := H.out.tB
      · simp at h0
      · exact ⟨g, off, cap, h, hn⟩
    have hT := H1.out.tB
    have htg := H1.out.t9
    rw [hv] at c0 hT htg
    have hf := H1.out.frozen 7
    have hlpos : (0 : Int) < (l.length : Int) + 1 := by omega
    have HT := hid hT
    have HTG := hid htg
    clear hT htg
    by_cases hc1 : cap = 1
    · have hT2 := (own_tail5 HT.out).2 hc1
      have HP := hid (H1.out.lost _ hT2 HTG.out)
      subst hc1
      obtain rfl : l = [] := List.eq_nil_of_length_eq_zero (by omega)
      clear hT2
      go_enter Try.func12, Try.ntmps12
      go_wp2
      go_end0
      exact ⟨⟨_, rfl⟩, _, _, _, _, HP.out⟩
    · have hT2 := (own_tail5 HT.out).1 hc1
      have HP := hid (H1.out.lost _ hT2 (fun k hk => HTG.out k (by simpa [Value.ownBlock] using hk)))
      have hcap' : (l.length : Int) + 1 ≤ (cap : Int) := by omega
      have hcap1 : (1 : Int) ≤ (cap : Int) := by omega
      clear hT2
      go_enter Try.func12, Try.ntmps12
      go_wp2
      go_end0
      exact ⟨⟨_, rfl⟩, _, _, _, _, HP.out⟩
end Go.Proofs.Ytagemhmjpfldoaa
