/- The reference's wheel: Tick. -/
import Derived.Test.YtdnaeebehkplpaaWheelRefB
namespace Go.Proofs.Ytdnaeebehkplpaa
open Go.RowKit
set_option linter.unusedVariables false
set_option linter.unusedSimpArgs false

theorem dues_snoc (l : List Tm) (t : Tm) (m : Nat) : dues (l ++ [t]) m = dues l m ++ if t.due = m then [t] else [] := by
  unfold dues
  rw [List.filter_append]
  by_cases e : t.due = m <;> simp [e]
theorem late_snoc (l : List Tm) (t : Tm) (m : Nat) : late (l ++ [t]) m = late l m ++ if t.due = m then [] else [t] := by
  unfold late
  rw [List.filter_append]
  by_cases e : t.due = m <;> simp [e]
theorem ids_append (l l' : List Tm) : ids (l ++ l') = ids l ++ ids l' := by simp [ids]
/-- What stands ahead of a round of the reference's Tick. -/
structure RT (w1 wr : World) (L : List Tm) (m i : Nat) (lv ov : Value) : Prop where
  k : Kept [] w1 wr
  l : Own w1.heap.size 73 2 wr lv (late (L.take i) m).length (rts (late (L.take i) m))
  o : OwnL w1.heap.size 3 wr ov (ids (dues (L.take i) m))
  a : ∀ k, lv.ownBlock = some k → ov.ownBlock ≠ some k
  n : (late (L.take i) m).length ≤ i ∧ (dues (L.take i) m).length ≤ i
def RTick (w : World) (rb now : Nat) (v : Value) (L : List Tm) (e : Ending) (w' : World) : Prop :=
  ∃ vo v', e = .returned (.tuple #[vo, .int .i64 0]) ∧ OwnL w.heap.size 3 w' vo (ids (dues L (now + 1))) ∧ (∀ k, vo.ownBlock = some k → ¬ RB rb v' k) ∧ RF w' rb (now + 1) v' (late L (now + 1)) ∧ Step w w' (RB rb v) (RB rb v')
set_option maxRecDepth 100000 in
set_option maxHeartbeats 2000000 in
theorem rtick {w : World} {rb now : Nat} {v : Value} {L : List Tm} (h : RF w rb now v L) (hl : L.length ≤ 1000000) (hn : now < 1152921504606846976) :
    Calls Try.prog 21 #[.pointer (some ⟨rb, 0, none⟩)] w (RTick w rb now v L) := by
  obtain ⟨xa, xc, rfl, hxc, hmax⟩ := h.own.form
  unfold maxLen at hmax
  have c0 := h.c0
  have c1 := h.c1
  have f0 := h.f0
  have hni : ¬ (1152921504606846976 : Int) ≤ (now : Int) := by omega
  obtain ⟨m, hm⟩ : ∃ m, m = now + 1 := ⟨_, rfl⟩
  have hmi : (m : Int) = (now : Int) + 1 := by omega
  have h1 : RF (w.setCell ⟨rb, 0, none⟩ (.int .u64 (m : Int))) rb m (.slice xa L.length xc) L := ⟨by have := blk_set (o := 0) h.blk (.int .u64 (m : Int)); simpa using this, h.own.kept ((Kept.refl [rb] _).setCell (by simp) _) (fun k hk hm => by simp at hm; subst hm; exact h.nb hk), h.nb⟩
  have hS1 : Step w (w.setCell ⟨rb, 0, none⟩ (.int .u64 (m : Int))) (RB rb (.slice xa L.length xc)) (RB rb (.slice xa L.length xc)) := ⟨[rb], (Kept.refl [rb] _).setCell (by simp) _, fun k hk => by simp at hk; exact .inl (.inl hk), fun k hk => .inl hk⟩
  obtain ⟨w1, hw1⟩ : ∃ w1, w1 = w.setCell ⟨rb, 0, none⟩ (.int .u64 (m : Int)) := ⟨_, rfl⟩
  have hsz : w1.heap.size = w.heap.size := by rw [hw1]; simp [World.setCell]
  rw [← hw1] at h1 hS1
  have HM := hid hm
  have HW1 := hid hw1
  have H1 := hid h1
  have HS1 := hid hS1
  have HSZ := hid hsz
  have HMI := hid hmi
  have d0 := h1.c0
  have d1 := h1.c1
  clear h h1 hS1 hm hw1 hsz hmi
  go_enter Try.func21, Try.ntmps21
  go_wp2
  rw [← HMI.out, ← HW1.out]
  clear c0 c1 f0 d0 d1
  go_loopw [4, 5, 6] (fun lv ov iv wr => ∃ i : Nat, i ≤ L.length ∧ iv = .int .i64 (i : Int) ∧ RT w1 wr L m i lv ov) (fun _ _ iv _ => L.length - (intOf iv).toNat)
  case atStart => exact ⟨0, by omega, rfl, Kept.refl _ _, Own.nil _ _ _ _, OwnL.nil _ _ _, (fun k hk => by cases hk), by simp [late, dues]⟩
  case round =>
    obtain ⟨i, hi, rfl, hr⟩ := hrel
    have c0 := (H1.out.still hr.k).c0
    have c1 := (H1.out.still hr.k).c1
    have f1 := (H1.out.still hr.k).f1
    obtain ⟨la, lc, hlv, hlc, hlm⟩ := hr.l.form
    obtain ⟨oa, on, oc, hov⟩ := hr.o.form'
    subst hlv
    subst hov
    obtain ⟨hn1, hn2⟩ := hr.n
    have HR := hid hr
    clear hr
    by_cases hlt : i < L.length
    · have hlti : (i : Int) < (L.length : Int) := by omega
      obtain ⟨g, off, rfl, _, hcell⟩ := (H1.out.still HR.out.k).own.at (by omega : 0 < L.length)
      have cell2 : ∀ jj, jj < 2 → wr.cell? ⟨g, off + i * 2 + jj, none⟩ = (rtRow L[i])[jj]? := by
        intro jj hjj
        have hi2 : i * 2 + jj < (rts L).length := by rw [rts_length]; omega
        rw [show off + i * 2 + jj = off + (i * 2 + jj) by omega, hcell _ hi2, ← List.getElem?_eq_getElem hi2, rts_get L i hlt jj hjj]
      have htk : L.take (i + 1) = L.take i ++ [L[i]] := List.take_succ_eq_append_getElem hlt
      obtain ⟨t, ht⟩ : ∃ t, t = L[i] := ⟨_, rfl⟩
      rw [← ht] at cell2 htk
      have e0 := cell2 0 (by omega)
      have e1 := cell2 1 (by omega)
      simp only [rtRow, List.getElem?_cons_zero, List.getElem?_cons_succ, Nat.add_zero] at e0 e1
      have HTK := hid htk
      clear hcell cell2 ht htk
      by_cases he : t.due = m
      · have hei : ((t.due : Int) == (m : Int)) = true := by simp; omega
        have hids : (ids (dues (L.take i) m)).length ≤ 1000000 := by rw [ids_length]; omega
        have HE := hid he
        have HIDS := hid hids
        have HB := hid HR.out.k.size
        clear he hids
        go_wp2
        go_quiet (fail)
        have HO := hid (HR.out.o.kept (Kept.drewN [] wr nq) (not_in_nil _))
        go_wp2_with (at_builtin; refine wpList_append_L (wr.drewN nq) rfl (.tmp 41) (.tmp 50) 30 rfl w1.heap.size 3 _ (.int .i64 0) 8 Try.underlying30 (by kernel_rfl) rfl _ _ (.int .i64 t.id) rfl HO.out _ rfl rfl rfl (by have := HIDS.out; unfold maxLen; omega) (by have := HIDS.out; omega) HB.out ?_; intro v' w4 hown' hgrow hlie)
        have hk0 : Kept (Value.slice oa on oc).ownBlock.toList wr w4 := ((Kept.drewN _ wr nq)).trans (hgrow _ (fun k hk => mem_own.2 hk))
        have hkw : Kept [] w1 w4 := HR.out.k.join hk0 (fun k hm hlt => by have := (HR.out.o.lt k (mem_own.1 hm)).1; omega)
        have HR4 := hid (⟨hkw, by rw [HTK.out, late_snoc, if_pos HE.out, List.append_nil]; exact HR.out.l.kept hk0 (fun k hk hm => HR.out.a k hk (mem_own.1 hm)), by rw [HTK.out, dues_snoc, if_pos HE.out, ids_append]; exact hown', fun k hk hk2 => by
          rcases hlie k hk2 with h4 | h4
          · exact HR.out.a k hk h4
          · have h5 := (HR.out.l.lt k hk).2
            have h6 : wr.heap.size ≤ k := h4
            omega, by rw [HTK.out, late_snoc, dues_snoc, if_pos HE.out, if_pos HE.out, List.append_nil, List.length_append]; exact ⟨by omega, by simp; omega⟩⟩ : RT w1 w4 L m (i + 1) (.slice la (late (L.take i) m).length lc) v')
        clear hown' hgrow hlie hk0 hkw
        go_wp2_with fail
        go_roundw
        case rel => exact ⟨i + 1, by omega, by go_num, HR4.out⟩
        case measure => simp [intOf]; omega
      · have hei : ((t.due : Int) == (m : Int)) = false := beq_eq_false_iff_ne.2 (by omega)
        have HE := hid he
        have HN1 := hid hn1
        have HB := hid HR.out.k.size
        clear he
        go_wp2
        go_quiet (fail)
        go_wp2_with (at_builtin; refine wpList_append_Own _ rfl (.tmp 52) (.tmp 60) 51 rfl w1.heap.size 73 (.agg #[.int .i64 0, .int .u64 0]) 2 16 Try.underlying51 (by kernel_rfl) rfl (by decide) _ (late (L.take i) m).length (rts (late (L.take i) m)) rfl (HR.out.l.kept (S := []) ⟨rfl, rfl, rfl, by simp, fun k hk _ => Below.heap_alloc _ _ _ hk⟩ (not_in_nil _)) ⟨wr.heap.size, 0, none⟩ 1 1 (rtRow t) rfl rfl (cells_new (wr.drewN nq) _ _ _ rfl) (rtRow_one t) (by have := HN1.out; unfold maxLen; omega) (by have := HN1.out; omega) (by have := HB.out; simp; omega) ?_; intro v' w4 hown' hgrow hlie)
        have hk0 : Kept (Value.slice la (late (L.take i) m).length lc).ownBlock.toList wr w4 := (⟨rfl, rfl, rfl, by simp, fun k hk _ => Below.heap_alloc _ _ _ hk⟩ : Kept _ wr ((wr.drewN nq).alloc (.cells #[.int .i64 t.id, .int .u64 (t.due : Int)] 73))).grown hgrow (fun k hk _ => mem_own.2 hk)
        have hkw : Kept [] w1 w4 := HR.out.k.join hk0 (fun k hm hlt => by have := (HR.out.l.lt k (mem_own.1 hm)).1; omega)
        have HR4 := hid (⟨hkw, by rw [HTK.out, late_snoc, if_neg HE.out, List.length_append, rts_append]; exact hown', by rw [HTK.out, dues_snoc, if_neg HE.out, List.append_nil]; exact HR.out.o.kept hk0 (fun k hk hm => HR.out.a k (mem_own.1 hm) hk), fun k hk hk2 => by
          rcases hlie k hk with h4 | h4
          · exact HR.out.a k h4 hk2
          · have h5 := (HR.out.o.lt k hk2).2
            simp at h4
            omega, by rw [HTK.out, late_snoc, dues_snoc, if_neg HE.out, if_neg HE.out, List.append_nil, List.length_append]; exact ⟨by simp; omega, by omega⟩⟩ : RT w1 w4 L m (i + 1) v' (.slice oa on oc))
        clear hown' hgrow hlie hk0 hkw
        go_wp2_with fail
        go_roundw
        case rel => exact ⟨i + 1, by omega, by go_num, HR4.out⟩
        case measure => simp [intOf]; omega
    · obtain rfl : i = L.length := by omega
      go_wp2
      go_ret2
      have hr := HR.out
      have hl9 := hr.l
      have ho9 := hr.o
      have ha9 := hr.a
      rw [List.take_length] at hl9 ho9 ha9
      obtain ⟨h5, h6⟩ := H1.out.store hr.k hl9
      have hset : Kept [rb] wr (wr.setCell ⟨rb, 1, none⟩ (.slice la (late L m).length lc)) := (Kept.refl _ _).setCell (by simp) _
      have hrb := lt_of_blk H1.out.blk
      unfold RTick
      rw [← HM.out]
      refine ⟨_, _, rfl, ?_, fun k hk hm => ?_, h5, HS1.out.trans h6⟩
      · rw [← HSZ.out]
        exact ho9.kept hset (fun k hk hm => by simp at hm; subst hm; have := (ho9.lt k hk).1; omega)
      · rcases hm with rfl | hm
        · have := (ho9.lt k hk).1; omega
        · exact ha9 k hm hk
theorem rtick_last {w : World} {rb now : Nat} {v : Value} {L : List Tm} (h : RF w rb now v L) (hn : 1152921504606846976 ≤ now) :
    Calls Try.prog 21 #[.pointer (some ⟨rb, 0, none⟩)] w fun e w' => e = .returned (.tuple #[.slice none 0 0, .int .i64 1]) ∧ w = w' := by
  have c0 := h.c0
  have hni : (1152921504606846976 : Int) ≤ (now : Int) := by omega
  clear h
  go_enter Try.func21, Try.ntmps21
  go_wp2
  go_ret2
  exact ⟨rfl, rfl⟩
end Go.Proofs.Ytdnaeebehkplpaa
