/- The law's own helper 'act', one arm of it. -/
import Derived.Test.YtagemhmjpfldoaaLinkActBase
namespace Go.Proofs.Ytagemhmjpfldoaa
open Go.RowKit
set_option linter.unusedVariables false
set_option linter.unusedSimpArgs false

set_option maxRecDepth 100000 in
set_option maxHeartbeats 8000000 in
theorem act7 {w0 : World} {T : Nat → Nat} {w : World} {wb : Nat} {A B : Ends} {m win : Nat} {V : Six} {lA lB : List (Pk × Value)} {s : St} (h : Wo w0 T w wb A B m win V lA lB s) (hsm : s.gB.length ≤ 100000)
    (k : Int) (hk1 : 0 ≤ k) (hk2 : k ≤ 255) (hk : k % 9 = 7) (x : ByteArray) (n : Int) (hn1 : -9223372036854775808 ≤ n) (hn2 : n ≤ 9223372036854775807) :
    Calls Try.prog 12 #[.pointer (some ⟨wb, 0, none⟩), .agg #[.int .u8 k, .string x, .int .i64 n]] w (ActPost w0 wb A B m win s.takeB) := by
  have hal : Kept [] w (w.alloc (.cells #[.int .u8 k, .string x, .int .i64 n] 28)) := (Kept.refl _ _).alloc _
  have h1 := h.still hal 0
  have H := hid h
  have H1 := hid h1
  have HAL := hid hal
  have c0 := h1.cells.2.1
  clear h h1 hal
  rcases hli : s.liB with _ | ⟨y, l⟩
  · have hst : s.takeB = s := by simp [St.takeB, hli]
    go_enter Try.func12, Try.ntmps12
    go_wp2_with fail
    refine (LIn.take_none (hli ▸ H1.out.b)).mono ?_
    rintro e w2 ⟨rfl, hw2⟩
    subst hw2
    go_wp2
    go_end0
    try rw [hst]
    exact ⟨⟨_, rfl⟩, _, _, _, _, H1.out⟩
  · have hst : s.takeB = { s with gB := s.gB ++ [y], liB := l } := by simp [St.takeB, hli]
    have hy := H.out.b.is y (by rw [hli]; simp)
    obtain ⟨y, rfl⟩ := hy
    go_enter Try.func12, Try.ntmps12
    go_wp2_with fail
    refine (LIn.take_ok (hli ▸ H1.out.b)).mono ?_
    rintro e w2 ⟨rfl, hL, hK⟩
    have h2 := H1.out.carry hK (fun c => c == 2) rfl (fun k hk => by rw [H1.out.t2 k (Ends.ro_all k hk)]; rfl) 0 V lA lB { s with liB := l } rfl ⟨rfl, rfl, rfl, rfl⟩ hL ⟨rfl, rfl⟩ ⟨rfl, rfl⟩ ⟨rfl, rfl⟩ ⟨rfl, rfl⟩ ⟨rfl, rfl, rfl⟩ ⟨rfl, rfl, rfl⟩ rfl
    have c2 := h2.cells.2.2.2.2.2.1
    have H2 := hid h2
    clear h2 hK hL
    go_wp2_with (at_builtin; refine wpList_append_Own _ rfl (.tmp 197) (.tmp 199) 32 rfl 0 9 (.string ⟨#[]⟩) 1 16 Try.underlying32 (by kernel_rfl) rfl (by decide) V.gB s.gB.length s.gB rfl (by exact OwnL.kept H2.out.gB (S := []) (kept_new _) (not_in_nil _)) ⟨w2.heap.size, 0, none⟩ 1 1 [.string y] rfl rfl (by exact cell_one_new _ _ _) (by exact one_cell_news rfl) (by unfold maxLen; omega) (by omega) (by simp) ?_; intro v' w3 hO hG hT; obtain ⟨hgk, hgc, hgf⟩ := H2.out.grown7 (kept_new _) hG; have HP := hid (H2.out.put7 (kept_new _) hG v' (.string y) hO hT); obtain ⟨va, vn, vc, rfl⟩ := OwnL.form' (Own.list hO); clear hgk hO hG hT)
    go_end0
    try rw [hst]
    exact ⟨⟨_, rfl⟩, _, _, _, _, HP.out⟩
end Go.Proofs.Ytagemhmjpfldoaa
