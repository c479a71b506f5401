/- The law's own helper 'act', one arm of it. -/
import Derived.Test.YtagemhmjpfldoaaLinkActBase
namespace Go.Proofs.Ytagemhmjpfldoaa
open Go.RowKit
set_option linter.unusedVariables false
set_option linter.unusedSimpArgs false

set_option maxRecDepth 100000 in
set_option maxHeartbeats 8000000 in
theorem act3 {w0 : World} {T : Nat → Nat} {w : World} {wb : Nat} {A B : Ends} {m win : Nat} {V : Six} {lA lB : List (Pk × Value)} {s : St} (h : Wo w0 T w wb A B m win V lA lB s) (hsm : s.tA.length ≤ 100000)
    (k : Int) (hk1 : 0 ≤ k) (hk2 : k ≤ 255) (hk : k % 9 = 3) (x : ByteArray) (n : Int) (hn1 : -9223372036854775808 ≤ n) (hn2 : n ≤ 9223372036854775807) :
    Calls Try.prog 12 #[.pointer (some ⟨wb, 0, none⟩), .agg #[.int .u8 k, .string x, .int .i64 n]] w (ActPost w0 wb A B m win (s.sendB win)) := by
  have hal : Kept [] w (w.alloc (.cells #[.int .u8 k, .string x, .int .i64 n] 28)) := (Kept.refl _ _).alloc _
  have h1 := h.still hal 0
  have H := hid h
  have H1 := hid h1
  have HAL := hid hal
  have c0 := h1.cells.2.1
  have ct := h1.cells.2.2.2.2.2.2.1
  have hel : lA.length ≤ 100000 := by have := hsm; rw [h.fA] at this; simpa using this
  clear h h1 hal
  go_enter Try.func12, Try.ntmps12
  go_wp2
  go_region_law (first
    | (refine step_calls rfl 17 Try.f17 Try.func17 (by kernel_rfl) (by kernel_rfl) #[.tmp 93] _ rfl #[.pointer (some ⟨B.k, 0, none⟩)] (by simp [Act.eval, Act.put]) (by exact LIn.out_any (by exact H1.out.b.sim ⟨rfl, rfl, rfl, rfl⟩)) (by rintro e w' ⟨v, rfl, _⟩; exact ⟨_, rfl⟩) ?_; rintro v3 w3 ⟨u, hu, hO, hK⟩; rw [H1.out.eB.1, H1.out.eB.2] at hu; obtain rfl := Ending.returned.inj hu; clear hu; have hK : Kept [] (w.alloc (.cells #[.int .u8 k, .string x, .int .i64 n] 28)) w3 := hK.as ⟨rfl, rfl, rfl, rfl⟩; have h3 := H1.out.still hK 10; have htu : Tag (up (up T w.heap.size 0) (w.alloc (.cells #[.int .u8 k, .string x, .int .i64 n] 28)).heap.size 10) 10 u := (fun k hk => by have := (hO.lt k hk).1; exact up_new this); have hO := hO.base (Nat.zero_le _); obtain ⟨ua, un, uc, rfl⟩ := hO.form'; have c3 := h3.cells.2.2.2.2.2.2.1; have c4 := (h3.still (kept_new (.cells #[.int .u64 4, .int .i64 2, .int .u64 (s.ackB : Int), .slice ua un uc, .int .u64 (s.nxB : Int)] 49)) 0).cells.2.2.2.2.2.2.1; have H3 := hid h3; have HOU := hid hO; have HTU := hid htu; clear h3 hO htu hK)
    | (refine step_append_Own rfl (.tmp 89) (.tmp 95) 34 rfl 0 49 (.agg #[.int .u64 0, .int .i64 0, .int .u64 0, .slice none 0 0, .int .u64 0]) 5 56 Try.underlying34 (by kernel_rfl) rfl (by decide) V.tA lA.length (rows lA) (by simp [Act.eval, Act.put]) (by exact Own.kept H3.out.tA (S := []) (kept_new _) (not_in_nil _)) ⟨w3.heap.size, 0, none⟩ 1 1 (rowOf (⟨s.ackB, s.loB.take win, s.nxB⟩, .slice ua un uc)) (by simp [Act.eval, Act.put]) rfl (by exact cells_new _ _ _ _ rfl) (by simp [rowOf, Value.oneCell']) (by unfold maxLen; omega) (by omega) (by simp) ?_; intro v' w4 hO hG hT; obtain ⟨hgk, hgc, hgf⟩ := H3.out.grown8 (kept_new _) hG; have HP := hid (H3.out.put8 (kept_new _) hG v' (⟨s.ackB, s.loB.take win, s.nxB⟩, .slice ua un uc) HOU.out HTU.out hO hT); obtain ⟨xa, xc, hxv, _⟩ := hO.form; clear hgk hO hG hT; subst hxv))
  all_goals
    go_end0
    exact ⟨⟨_, rfl⟩, _, _, _, _, HP.out⟩
end Go.Proofs.Ytagemhmjpfldoaa
