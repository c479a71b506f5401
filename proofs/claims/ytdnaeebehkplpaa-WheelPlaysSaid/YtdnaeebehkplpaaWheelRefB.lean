/- The reference's wheel: Arm, Due, Tick. -/
import Derived.Test.YtdnaeebehkplpaaWheelRef
import Derived.IntWalk
namespace Go.Proofs.Ytdnaeebehkplpaa
open Go.RowKit
set_option linter.unusedVariables false
set_option linter.unusedSimpArgs false

theorem RF.grown {w W w' : World} {rb now : Nat} {v : Value} {L : List Tm} (h : RF w rb now v L) (hg : W.grownBy w' v.ownBlock) (hW : Kept [] w W) : Kept v.ownBlock.toList w w' ∧ w'.heap[rb]? = some (.cells #[.int .u64 (now : Int), v] 53 (0, 0)) := by
  have hk : Kept v.ownBlock.toList w w' := (hW.mono (by simp)).grown hg (fun k hk _ => mem_own.2 hk)
  exact ⟨hk, hk.blk h.blk (fun hm => h.nb (mem_own.1 hm))⟩
theorem RF.put {w W w' : World} {rb now : Nat} {v v' : Value} {L : List Tm} (h : RF w rb now v L) (hg : W.grownBy w' v.ownBlock) (hW : Kept [] w W) (t : Tm) (hO : Own 0 73 2 w' v' (L.length + 1) (rts L ++ rtRow t)) (hT : ∀ k, v'.ownBlock = some k → v.ownBlock = some k ∨ W.heap.size ≤ k) :
    RF (w'.setCell ⟨rb, 1, none⟩ v') rb now v' (L ++ [t]) ∧ Step w (w'.setCell ⟨rb, 1, none⟩ v') (RB rb v) (RB rb v') := by
  obtain ⟨hk, hb⟩ := h.grown hg hW
  have hset : Kept [rb] w' (w'.setCell ⟨rb, 1, none⟩ v') := (Kept.refl _ _).setCell (by simp) _
  have hl := lt_of_blk h.blk
  have hs := hW.size
  have hne : ∀ k, v'.ownBlock = some k → k ≠ rb := fun k hk' e => by
    subst e
    rcases hT k hk' with h4 | h4
    · exact h.nb h4
    · omega
  refine ⟨⟨blk_set hb v', ?_, fun e => hne _ e rfl⟩, ⟨rb :: v.ownBlock.toList, (hk.mono (fun a ha => List.mem_cons_of_mem _ ha)).trans (hset.mono (by simp)), fun k hm => ?_, fun k hm => ?_⟩⟩
  · rw [List.length_append, rts_append]
    simp only [rts, List.append_nil]
    exact hO.kept hset (fun k hk' hm => by simp at hm; exact hne k hk' hm)
  · rcases List.mem_cons.1 hm with rfl | hm
    · exact .inl (.inl rfl)
    · exact .inl (.inr (mem_own.1 hm))
  · rcases hm with rfl | hm
    · exact .inl (.inl rfl)
    · rcases hT k hm with h4 | h4
      · exact .inl (.inr h4)
      · exact .inr (by omega)
def RArm (w : World) (rb now : Nat) (v : Value) (L : List Tm) (id : Int) (k n : Nat) (e : Ending) (w' : World) : Prop :=
  e = .returned (.int .i64 0) ∧ ∃ v', RF w' rb now v' (less L id ++ [⟨now + k, id, n⟩]) ∧ Step w w' (RB rb v) (RB rb v')
set_option maxRecDepth 100000 in
set_option maxHeartbeats 2000000 in
theorem rarm {w : World} {rb now : Nat} {v : Value} {L : List Tm} (h : RF w rb now v L) (id : Int) (hl : L.length ≤ 1000000) (k n : Nat) (hk1 : 1 ≤ k) (hk2 : now + k ≤ 1152921504606846976) :
    Calls Try.prog 19 #[.pointer (some ⟨rb, 0, none⟩), .int .i64 id, .int .u64 (k : Int)] w (RArm w rb now v L id k n) := by
  have c0 := h.c0
  have i1 : ¬ (k : Int) < 1 := by omega
  have i2 : ¬ (1152921504606846976 : Int) < (k : Int) := by omega
  have i3 : ¬ (1152921504606846976 : Int) - (k : Int) < (now : Int) := by omega
  have i4 : (now : Int) + (k : Int) ≤ 1152921504606846976 := by omega
  have H := hid h
  clear h
  go_enter Try.func19, Try.ntmps19
  go_wp2_with fail
  refine (rcancel H.out id hl _ rfl).mono ?_
  rintro e w1 ⟨rfl, v1, h1, hS1, _⟩
  have hll : (less L id).length ≤ 1000000 := by have := List.length_filter_le (fun t : Tm => decide (t.id ≠ id)) L; unfold less; omega
  obtain ⟨xa, xc, hxv, hxc, _⟩ := h1.own.form
  subst hxv
  have d0 := h1.c0
  have d1 := h1.c1
  have H1 := hid h1
  have HS1 := hid hS1
  have hLL := hid hll
  obtain ⟨L1, hL1⟩ : ∃ L1, L1 = less L id := ⟨_, rfl⟩
  have hq := fun m => (h1.still ⟨rfl, rfl, rfl, by simp, fun k hk _ => Below.heap_alloc _ _ _ hk⟩ : RF ((w1.drewN m).alloc (.cells #[.int .i64 id, .int .u64 ((now : Int) + (k : Int))] 73)) rb now _ (less L id)).c0
  have hq1 := fun m => (h1.still ⟨rfl, rfl, rfl, by simp, fun k hk _ => Below.heap_alloc _ _ _ hk⟩ : RF ((w1.drewN m).alloc (.cells #[.int .i64 id, .int .u64 ((now : Int) + (k : Int))] 73)) rb now _ (less L id)).c1
  have hr0 := (h1.still ((Kept.refl [] w1).alloc (.cells #[.int .i64 id, .int .u64 ((now : Int) + (k : Int))] 73))).c0
  have hr1 := (h1.still ((Kept.refl [] w1).alloc (.cells #[.int .i64 id, .int .u64 ((now : Int) + (k : Int))] 73))).c1
  have hwr : IntKind.u64.wrap ((now : Int) + (k : Int)) = (now : Int) + (k : Int) := IntWalk.u64_in _ (by omega)
  clear h1 hS1 hll c0
  go_wp2
  go_region_law (refine step_append_Own rfl (.tmp 29) (.tmp 38) 51 rfl 0 73 (.agg #[.int .i64 0, .int .u64 0]) 2 16 Try.underlying51 (by kernel_rfl) rfl (by decide) (.slice xa (less L id).length xc) (less L id).length (rts (less L id)) (by simp [Act.eval, Act.put]) (by exact H1.out.own.kept (S := []) ⟨rfl, rfl, rfl, by simp, fun k hk _ => Below.heap_alloc _ _ _ hk⟩ (not_in_nil _)) ⟨w1.heap.size, 0, none⟩ 1 1 (rtRow ⟨now + k, id, n⟩) (by simp [Act.eval, Act.put]) rfl (by exact cells_new_at w1 _ rfl _ _ _ (by simp [rtRow])) (rtRow_one _) (by have := hLL.out; unfold maxLen; omega) (by have := hLL.out; omega) (by simp) ?_; intro v' w3 hO hG hT; obtain ⟨hgk, hgb⟩ := H1.out.grown hG ⟨rfl, rfl, rfl, by simp, fun k hk _ => Below.heap_alloc _ _ _ hk⟩; have hg0 : w3.cell? ⟨rb, 0, none⟩ = some (.int .u64 (now : Int)) := (cell_of (o := 0) hgb).trans rfl; have hg1 : w3.cell? ⟨rb, 1, none⟩ = some (.slice xa (less L id).length xc) := (cell_of (o := 1) hgb).trans rfl; have hgf := frozen_of (o := 1) hgb; have HP := hid (H1.out.put hG ⟨rfl, rfl, rfl, by simp, fun k hk _ => Below.heap_alloc _ _ _ hk⟩ ⟨now + k, id, n⟩ hO hT); obtain ⟨ya, yc, hyv, _⟩ := hO.form; clear hO hG hT hgk hgb; subst hyv)
  all_goals
    go_wp2
    go_ret
    exact ⟨rfl, _, HP.out.1, HS1.out.trans HP.out.2⟩
theorem rarm_bad {w : World} {rb now : Nat} {v : Value} {L : List Tm} (h : RF w rb now v L) (id k : Int) (hn : now ≤ 1152921504606846976) (hk0 : 0 ≤ k) (hk : k ≤ 18446744073709551615) (hb : k < 1 ∨ 1152921504606846976 < (now : Int) + k) :
    Calls Try.prog 19 #[.pointer (some ⟨rb, 0, none⟩), .int .i64 id, .int .u64 k] w fun e w' => e = .returned (.int .i64 1) ∧ w = w' := by
  have c0 := h.c0
  have hni : (now : Int) ≤ 1152921504606846976 := by omega
  clear h
  by_cases h1 : k < 1
  · go_enter Try.func19, Try.ntmps19
    go_wp2
    go_ret
    exact ⟨rfl, rfl⟩
  · by_cases h2 : 1152921504606846976 < k
    · go_enter Try.func19, Try.ntmps19
      go_wp2
      go_ret
      exact ⟨rfl, rfl⟩
    · have h3 : (1152921504606846976 : Int) - k < (now : Int) := by omega
      have h4 : k ≤ 1152921504606846976 := by omega
      clear hb
      go_enter Try.func19, Try.ntmps19
      go_wp2
      go_ret
      exact ⟨rfl, rfl⟩
def rdue_post (w : World) (a : Int) (b : Bool) (e : Ending) (w' : World) : Prop := e = .returned (.tuple #[.int .u64 a, .bool b]) ∧ w = w'
set_option maxRecDepth 100000 in
set_option maxHeartbeats 2000000 in
theorem rdue {w : World} {rb now : Nat} {v : Value} {L : List Tm} (h : RF w rb now v L) (id : Int) (hl : L.length ≤ 1000000) (a : Int) (b : Bool) (hb : (b = true ∧ ∃ t ∈ L, t.id = id ∧ (t.due : Int) = a ∧ ∀ x ∈ L, x.id = id → x = t) ∨ (b = false ∧ a = 0 ∧ ∀ x ∈ L, x.id ≠ id)) :
    Calls Try.prog 22 #[.pointer (some ⟨rb, 0, none⟩), .int .i64 id] w (rdue_post w a b) := by
  obtain ⟨xa, xc, rfl, hxc, hmax⟩ := h.own.form
  unfold maxLen at hmax
  have c1 := h.c1
  have H := hid h
  have HB := hid hb
  clear h hb
  go_enter Try.func22, Try.ntmps22
  go_wp2
  go_loop [6] (fun iv => ∃ i : Nat, i ≤ L.length ∧ iv = .int .i64 (i : Int) ∧ ∀ x ∈ L.take i, x.id ≠ id) (fun iv => L.length - (intOf iv).toNat)
  case atStart => exact ⟨0, by omega, rfl, by simp⟩
  case round =>
    obtain ⟨i, hi, rfl, hno⟩ := hrel
    have HNO := hid hno
    clear hno
    by_cases hlt : i < L.length
    · have hlti : (i : Int) < (L.length : Int) := by omega
      obtain ⟨g, off, rfl, _, hcell⟩ := H.out.own.at (by omega : 0 < L.length)
      have cell2 : ∀ jj, jj < 2 → w.cell? ⟨g, off + i * 2 + jj, none⟩ = (rtRow L[i])[jj]? := by
        intro jj hjj
        have hi2 : i * 2 + jj < (rts L).length := by rw [rts_length]; omega
        rw [show off + i * 2 + jj = off + (i * 2 + jj) by omega, hcell _ hi2, ← List.getElem?_eq_getElem hi2, rts_get L i hlt jj hjj]
      have htk : L.take (i + 1) = L.take i ++ [L[i]] := List.take_succ_eq_append_getElem hlt
      have hmem := List.getElem_mem hlt
      obtain ⟨t, ht⟩ : ∃ t, t = L[i] := ⟨_, rfl⟩
      rw [← ht] at cell2 htk hmem
      have e0 := cell2 0 (by omega)
      have e1 := cell2 1 (by omega)
      simp only [rtRow, List.getElem?_cons_zero, List.getElem?_cons_succ, Nat.add_zero] at e0 e1
      have HTK := hid htk
      have HMEM := hid hmem
      clear hcell cell2 ht htk hmem
      by_cases he : t.id = id
      · have hei : (t.id == id) = true := by simp [he]
        have hfin : b = true ∧ (t.due : Int) = a := by
          rcases HB.out with ⟨hb, x, hx, e, hd, hu⟩ | ⟨hb, ha, hn⟩
          · have := hu t HMEM.out he
            subst this
            exact ⟨hb, hd⟩
          · exact absurd he (hn t HMEM.out)
        obtain ⟨rfl, rfl⟩ := hfin
        clear he
        go_wp2
        go_ret2
        exact ⟨rfl, rfl⟩
      · have hei : (t.id == id) = false := by simp [he]
        have HE := hid he
        clear he
        go_wp2_with fail
        go_round
        case rel => exact ⟨i + 1, by omega, by go_num, fun x hx => by rw [HTK.out] at hx; rcases List.mem_append.1 hx with hx | hx; exact HNO.out x hx; simp at hx; subst hx; exact HE.out⟩
        case measure => simp [intOf]; omega
    · obtain rfl : i = L.length := by omega
      have hfin : b = false ∧ a = 0 := by
        have hno := HNO.out
        rw [List.take_length] at hno
        rcases HB.out with ⟨hb, x, hx, e, hd, hu⟩ | ⟨hb, ha, hn⟩
        · exact absurd e (hno x hx)
        · exact ⟨hb, ha⟩
      obtain ⟨rfl, rfl⟩ := hfin
      go_wp2
      go_ret2
      exact ⟨rfl, rfl⟩
end Go.Proofs.Ytdnaeebehkplpaa
