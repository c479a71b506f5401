/- The law's own helper 'act', one arm of it. -/
import Derived.Test.YtagemhmjpfldoaaLinkActBase
namespace Go.Proofs.Ytagemhmjpfldoaa
open Go.RowKit
set_option linter.unusedVariables false
set_option linter.unusedSimpArgs false

/-- Blocks of class 11 are as they were. -/
def Frame (T : Nat → Nat) (w : World) (T' : Nat → Nat) (w' : World) : Prop := w.heap.size ≤ w'.heap.size ∧ ∀ k, k < w.heap.size → T' k = T k ∧ (T k = 11 → w'.heap[k]? = w.heap[k]?)
theorem Frame.trans {T T' T'' : Nat → Nat} {w w' w'' : World} (h : Frame T w T' w') (g : Frame T' w' T'' w'') : Frame T w T'' w'' :=
  ⟨Nat.le_trans h.1 g.1, fun k hk => by
    obtain ⟨a, b⟩ := h.2 k hk
    obtain ⟨c, d⟩ := g.2 k (Nat.lt_of_lt_of_le hk h.1)
    exact ⟨c.trans a, fun e => (d (a.trans e)).trans (b e)⟩⟩
theorem Frame.kept {T : Nat → Nat} {S : List Nat} {w w' : World} (hk : Kept S w w') (hS : ∀ k ∈ S, T k ≠ 11) (d : Nat) : Frame T w (up T w.heap.size d) w' :=
  ⟨hk.size, fun k hl => ⟨up_old hl, fun e => hk.block k hl (fun hm => hS k hm e)⟩⟩
def ActPostF (w0 : World) (T0 : Nat → Nat) (wa : World) (wb : Nat) (A B : Ends) (m win : Nat) (s : St) (e : Ending) (w' : World) : Prop :=
  (∃ v, e = .returned v) ∧ ∃ T V lA lB, Wo w0 T w' wb A B m win V lA lB s ∧ Frame T0 wa T w'
theorem Wo.frame4 {w0 : World} {T : Nat → Nat} {w : World} {wb : Nat} {A B : Ends} {m win : Nat} {V : Six} {lA lB : List (Pk × Value)} {s : St} (h : Wo w0 T w wb A B m win V lA lB s) {w' : World} (hk : Kept V.pA.ownBlock.toList w w') (v' : Value) : Frame T w (up T w.heap.size 4) (w'.setCell ⟨wb, 0 + 2, none⟩ v') :=
  Frame.kept (S := wb :: V.pA.ownBlock.toList) ((hk.mono (by simp; intro a ha; exact .inr ha)).setCell (by simp) _) (fun k hm => by
    rcases List.mem_cons.1 hm with rfl | hm
    · rw [h.t3]; omega
    · rw [h.t4 k (mem_own.1 hm)]; omega) 4
set_option maxRecDepth 100000 in
set_option maxHeartbeats 8000000 in
theorem act0f {w0 : World} {T : Nat → Nat} {w : World} {wb : Nat} {A B : Ends} {m win : Nat} {V : Six} {lA lB : List (Pk × Value)} {s : St} (h : Wo w0 T w wb A B m win V lA lB s) (hsm : s.pA.length ≤ 100000)
    (k : Int) (hk1 : 0 ≤ k) (hk2 : k ≤ 255) (hk : k % 9 = 0) (x : ByteArray) (n : Int) (hn1 : -9223372036854775808 ≤ n) (hn2 : n ≤ 9223372036854775807) :
    Calls Try.prog 12 #[.pointer (some ⟨wb, 0, none⟩), .agg #[.int .u8 k, .string x, .int .i64 n]] w (ActPostF w0 T w wb A B m win (s.putA m (.string x))) := by
  have hal : Kept [] w (w.alloc (.cells #[.int .u8 k, .string x, .int .i64 n] 28)) := (Kept.refl _ _).alloc _
  have h1 := h.still hal 0
  have H := hid h
  have H1 := hid h1
  have HAL := hid hal
  have c0 := h1.cells.1
  clear h h1 hal
  by_cases hlt : s.loA.length < m
  · have hst : s.putA m (.string x) = { s with pA := s.pA ++ [.string x], loA := s.loA ++ [.string x] } := by simp [St.putA, hlt]
    go_enter Try.func12, Try.ntmps12
    go_wp2
    refine wp_region_quiet_tail 6 (by kernel_rfl) (by kernel_rfl) ?_
    simp only [List.take_succ_cons, List.take_zero, List.drop_succ_cons, List.drop_zero]
    repeat (go_big_quiet_step (fail))
    refine wpQuiet_nil ?_
    go_wp2_with fail
    refine (LSt.put_ok (by exact H1.out.a.sim ⟨rfl, rfl, rfl, rfl⟩) hlt x).mono ?_
    rintro e w2 ⟨rfl, hL, hK⟩
    have hK2 : Kept A.so (w.alloc (.cells #[.int .u8 k, .string x, .int .i64 n] 28)) w2 := hK.as ⟨rfl, rfl, rfl, rfl⟩
    have h2 := H1.out.carry hK2 (fun c => c == 1) rfl (fun k hk => by rw [H1.out.t1 k (Ends.so_all k hk)]; rfl) 0 V lA lB { s with loA := s.loA ++ [.string x] } rfl hL ⟨rfl, rfl, rfl, rfl⟩ ⟨rfl, rfl⟩ ⟨rfl, rfl⟩ ⟨rfl, rfl⟩ ⟨rfl, rfl⟩ ⟨rfl, rfl, rfl⟩ ⟨rfl, rfl, rfl⟩ rfl
    have hb2 := hK2.blk (blk_alloc_new w _) (fun hm => by have := H.out.a.lt _ (Ends.so_all _ hm); omega)
    have c1 : w2.cell? ⟨w.heap.size, 1, none⟩ = some (.string x) := by rw [cell_of hb2]; rfl
    have c2 := h2.cells.2.2.1
    have H2 := hid h2
    have F2 := hid (Frame.kept (T := up T w.heap.size 0) hK2 (fun k hk => by rw [H1.out.t1 k (Ends.so_all k hk)]; omega) 0)
    have F1 := hid (Frame.kept (T := T) HAL.out (by simp) 0)
    clear h2 hK hK2 hL
    go_wp2
    have c3 := (H2.out.still (kept_new (.cells #[.string x] 9)) 0).cells.2.2.1
    go_region_law ((refine step_append_Own rfl (.tmp 39) (.tmp 42) 32 rfl 0 9 (.string ⟨#[]⟩) 1 16 Try.underlying32 (by kernel_rfl) rfl (by decide) V.pA s.pA.length s.pA (by simp [Act.eval, Act.put]) (by exact OwnL.kept H2.out.pA (S := []) (kept_new1 _) (not_in_nil _)) ⟨w2.heap.size, 0, none⟩ 1 1 [.string x] (by simp [Act.eval, Act.put]) rfl (by exact cell_one_new _ _ _) (by exact one_cell_news rfl) (by unfold maxLen; omega) (by omega) (by simp) ?_; intro v' w3 hO hG hT; obtain ⟨hgk, hgc, hgf⟩ := H2.out.grown4 (kept_new1 _) hG; have HP := hid (H2.out.put4 (kept_new1 _) hG v' (.string x) ⟨_, rfl⟩ hO hT); obtain ⟨va, vn, vc, rfl⟩ := OwnL.form' (Own.list hO); have HF := hid (H2.out.frame4 hgk (.slice va vn vc)); clear hgk hO hG hT))
    all_goals
      go_end0
      try rw [hst]
      exact ⟨⟨_, rfl⟩, _, _, _, _, HP.out, (F1.out.trans F2.out).trans HF.out⟩
  · have hst : s.putA m (.string x) = s := by simp [St.putA, hlt]
    have hle : s.loA.length = m := by have := H.out.a.out.ring.le; omega
    go_enter Try.func12, Try.ntmps12
    go_wp2
    refine wp_region_quiet_tail 6 (by kernel_rfl) (by kernel_rfl) ?_
    simp only [List.take_succ_cons, List.take_zero, List.drop_succ_cons, List.drop_zero]
    repeat (go_big_quiet_step (fail))
    refine wpQuiet_nil ?_
    go_wp2_with fail
    refine (LSt.put_busy (by exact H1.out.a.sim ⟨rfl, rfl, rfl, rfl⟩) hle x).mono ?_
    rintro e w2 ⟨rfl, kd, rfl⟩
    go_wp2
    go_end0
    try rw [hst]
    exact ⟨⟨_, rfl⟩, _, _, _, _, H1.out.still ((Kept.drewN [] _ (1 + kd))) 0, (Frame.kept (T := T) HAL.out (by simp) 0).trans (Frame.kept ((Kept.drewN [] _ (1 + kd))) (by simp) 0)⟩
end Go.Proofs.Ytagemhmjpfldoaa
