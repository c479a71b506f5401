/- The wheel's 'Arm'. -/
import Derived.Test.YtkemkoiknoefdaaWheelPut
namespace Go.Proofs.Ytkemkoiknoefdaa
open Go.RowKit Go.Maps
set_option linter.unusedVariables false
set_option linter.unusedSimpArgs false

theorem Wh.setN {w : World} {b mb now n cnt sz : Nat} {d : Int → Nat} {vs : Nat → Value} {sl : Nat → List Tm} (h : Wh w b mb now n cnt d sz vs sl) (n' : Nat) : Wh (w.setCell ⟨b, 1, none⟩ (.int .u64 (n' : Int))) b mb now n' cnt d sz vs sl := by
  obtain ⟨cs, h0, h1, h2, h3, h4, h5⟩ := h.blk
  have hset : Kept [b] w (w.setCell ⟨b, 1, none⟩ (.int .u64 (n' : Int))) := (Kept.refl _ _).setCell (by simp) _
  exact ⟨⟨_, blk_set h0 _, by simp [h1], by rw [Array.getElem?_setIfInBounds, if_neg (by omega)]; exact h2, by rw [Array.getElem?_setIfInBounds, if_pos rfl, if_pos (by omega)], by rw [Array.getElem?_setIfInBounds, if_neg (by omega)]; exact h4, fun i hi => by rw [Array.getElem?_setIfInBounds, if_neg (by omega)]; exact h5 i hi⟩, h.map.kept hset (by simp; exact fun e => h.bm e.symm), fun i hi => (h.own i hi).kept hset (fun k hk hm => by simp at hm; subst hm; exact (h.nb i hi).1 hk), h.bm, h.nb, h.ap⟩
theorem Wh.setNow {w : World} {b mb now n cnt sz : Nat} {d : Int → Nat} {vs : Nat → Value} {sl : Nat → List Tm} (h : Wh w b mb now n cnt d sz vs sl) (now' : Nat) : Wh (w.setCell ⟨b, 0, none⟩ (.int .u64 (now' : Int))) b mb now' n cnt d sz vs sl := by
  obtain ⟨cs, h0, h1, h2, h3, h4, h5⟩ := h.blk
  have hset : Kept [b] w (w.setCell ⟨b, 0, none⟩ (.int .u64 (now' : Int))) := (Kept.refl _ _).setCell (by simp) _
  exact ⟨⟨_, blk_set h0 _, by simp [h1], by rw [Array.getElem?_setIfInBounds, if_pos rfl, if_pos (by omega)], by rw [Array.getElem?_setIfInBounds, if_neg (by omega)]; exact h3, by rw [Array.getElem?_setIfInBounds, if_neg (by omega)]; exact h4, fun i hi => by rw [Array.getElem?_setIfInBounds, if_neg (by omega)]; exact h5 i hi⟩, h.map.kept hset (by simp; exact fun e => h.bm e.symm), fun i hi => (h.own i hi).kept hset (fun k hk hm => by simp at hm; subst hm; exact (h.nb i hi).1 hk), h.bm, h.nb, h.ap⟩
theorem wpList_update_Mp {ops : Array Oper} {rest : List Oper} {o : Oper} {a : Act} {Q : Exit → Act → World → Prop} (w : World) (hg : o.guard = none) (hd : o.dst = none) (m x v : Operand) (hop : o.op = Op.mapUpdate 53 m x v) {mb cnt sz : Nat} {d : Int → Nat} (h : Mp w mb cnt d sz) (hc : cnt < maxLen)
    (hm : a.eval m = .map (some mb)) {id : Int} (hx : a.eval x = .int .i64 id) (hw : (Lit.int .i64 id).wf = true) (n : Nat) (hn : 1 ≤ n) (hn2 : n ≤ 18446744073709551615) (hv : a.eval v = .int .u64 (n : Int))
    (hK : ∀ w', Mp w' mb (cnt + 1) (fun i => if i = id then n else d i) (if d id = 0 then sz + 1 else sz) → Kept [mb] w w' → wpList Try.prog ops Q rest a w') : wpList Try.prog ops Q (o :: rest) a w := by
  refine wpList_plain hg fun K' hK' => ?_
  obtain ⟨w', hr, r1, r2⟩ := h.store hc hw n hn hn2
  unfold Oper.wp
  simp [execOp, hop, hm, hx, hv, hr, Result.andThen]
  show K' (a.put o.dst undef) w'
  rw [hd]
  exact hK' _ _ (hK w' r1 r2)
theorem Turned.first {w w1 w' : World} {b mb : Nat} {vs vs' : Nat → Value} {S : List Nat} (h : Turned w1 b mb vs w' vs') (hk : Kept S w w1) (hS : ∀ k ∈ S, Wh.In b mb vs k ∨ w.heap.size ≤ k) : Turned w b mb vs w' vs' := by
  obtain ⟨S', h1, h2, h3⟩ := h
  have hs := hk.size
  refine ⟨S ++ S', (hk.mono (by simp; intro a ha; exact .inl ha)).trans (h1.mono (by simp; intro a ha; exact .inr ha)), fun k hm => ?_, fun k hm => (h3 k hm).imp id (fun x => Nat.le_trans hs x)⟩
  rcases List.mem_append.1 hm with hm | hm
  · exact hS k hm
  · exact (h2 k hm).imp id (fun x => Nat.le_trans hs x)
theorem put_at {w : World} {b mb now n cnt sz : Nat} {d : Int → Nat} {vs : Nat → Value} {sl : Nat → List Tm} (h : Wh w b mb now n cnt d sz vs sl) (t : Tm) (hd : t.due ≤ 2305843009213693952) (hn : now ≤ 1152921504606846976) (hl : ∀ i, i < 81 → (sl i).length ≤ 100000000) (D M : Int) (hD : D = (t.due : Int)) (hM : M = (t.n : Int)) :
    Calls Try.prog 23 #[.pointer (some ⟨b, 0, none⟩), .agg #[.int .u64 D, .int .i64 t.id, .int .u64 M]] w (PutPost w b mb now n cnt d sz vs sl t) := by
  subst hD; subst hM
  exact put_any h t hd hn hl
def ArmPost (w : World) (b mb now n cnt : Nat) (d : Int → Nat) (sz : Nat) (vs : Nat → Value) (sl : Nat → List Tm) (id : Int) (k : Nat) (e : Ending) (w' : World) : Prop :=
  e = .returned (.int .i64 0) ∧ ∃ vs', Wh w' b mb now (n + 1) (cnt + 1) (fun i => if i = id then n + 1 else d i) (if d id = 0 then sz + 1 else sz) vs' (upd sl (place now (now + k)) (sl (place now (now + k)) ++ [⟨now + k, id, n + 1⟩])) ∧ Turned w b mb vs w' vs'
set_option maxRecDepth 100000 in
set_option maxHeartbeats 2000000 in
theorem arm_ok {w : World} {b mb now n cnt sz : Nat} {d : Int → Nat} {vs : Nat → Value} {sl : Nat → List Tm} (h : Wh w b mb now n cnt d sz vs sl) (id : Int) (hw : (Lit.int .i64 id).wf = true) (k : Nat) (hk1 : 1 ≤ k) (hk2 : now + k ≤ 1152921504606846976) (hn : n ≤ 100000000) (hc : cnt ≤ 100000000) (hl : ∀ i, i < 81 → (sl i).length ≤ 100000000) :
    Calls Try.prog 17 #[.pointer (some ⟨b, 0, none⟩), .int .i64 id, .int .u64 (k : Int)] w (ArmPost w b mb now n cnt d sz vs sl id k) := by
  have c0 := h.c0
  have c1 := h.c1
  have f1 := h.fr 1
  have i1 : ¬ (k : Int) < 1 := by omega
  have i2 : ¬ (1152921504606846976 : Int) < (k : Int) := by omega
  have i3 : ¬ (1152921504606846976 : Int) < (now : Int) + (k : Int) := by omega
  have i4 : (now : Int) + (k : Int) ≤ 1152921504606846976 := by omega
  have i5 : (n : Int) ≤ 100000000 := by omega
  have h1 := h.setN (n + 1)
  have H1 := hid h1
  have H := hid h
  have HW := hid hw
  have HL := hid hl
  have d0 := h1.c0
  have d1 := h1.c1
  have d2 := h1.c2
  have hcast : ((n + 1 : Nat) : Int) = (n : Int) + 1 := by omega
  rw [hcast] at d0 d1 d2
  clear h h1 hw hl
  go_enter Try.func17, Try.ntmps17
  go_wp2
  obtain ⟨w1, hw1⟩ : ∃ w1, w1 = w.setCell ⟨b, 1, none⟩ (.int .u64 ((n : Int) + 1)) := ⟨_, rfl⟩
  rw [← hw1] at d0 d1 d2 ⊢
  have H1' := hid (by rw [hw1, ← hcast]; exact H1.out : Wh w1 b mb now (n + 1) cnt d sz vs sl)
  have HK1 := hid (by rw [hw1]; exact (Kept.refl _ _).setCell (by simp) _ : Kept [b] w w1)
  have HC := hid hcast
  clear hw1 H1 c0 c1 f1 hcast
  refine wp_region_quiet_tail 9 (by kernel_rfl) (by kernel_rfl) ?_
  simp only [List.take_succ_cons, List.take_zero, List.drop_succ_cons, List.drop_zero]
  repeat (go_big_quiet_step (fail))
  refine wpQuiet_nil ?_
  refine wpList_update_Mp _ rfl rfl (.tmp 34) (.tmp 35) (.tmp 39) rfl (H1'.out.map.kept (Kept.drewN [] _ 1) (by simp)) (by unfold maxLen; omega) rfl rfl HW.out (n + 1) (by omega) (by omega) (by rw [HC.out]; rfl) ?_
  intro w2 hm2 hk2
  have hk2 : Kept [mb] w1 w2 := ⟨hk2.os, hk2.tape, hk2.output, hk2.size, hk2.block⟩
  have h2 := H1'.out.mapped hk2 hm2
  have d0 := h2.c0
  have d1 := h2.c1
  rw [HC.out] at d1
  have H2 := hid h2
  have HK2 := hid hk2
  clear hm2 hk2 h2 d2
  go_wp2
  refine wp_region_quiet_tail 13 (by kernel_rfl) (by kernel_rfl) ?_
  simp only [List.take_succ_cons, List.take_zero, List.drop_succ_cons, List.drop_zero]
  repeat (go_big_quiet_step (fail))
  refine wpQuiet_nil ?_
  go_wp2_with fail
  refine (put_at (H2.out.still (Kept.drewN [] _ 1)) ⟨now + k, id, n + 1⟩ (by show now + k ≤ _; omega) (by omega) HL.out _ _ (by show _ = ((now + k : Nat) : Int); omega) (by show _ = ((n + 1 : Nat) : Int); omega)).mono ?_
  rintro e w3 ⟨⟨v, rfl⟩, vs', h3, ht3⟩
  have HF := hid h3
  have HT := hid ((Turned.first (w := w1) ht3 (S := [mb]) ((HK2.out).trans ((Kept.drewN [mb] _ 1))) (fun k hk => by simp at hk; exact .inl (.inr (.inl hk)))).first HK1.out (fun k hk => by simp at hk; exact .inl (.inl hk)))
  clear h3 ht3
  go_wp2
  go_ret
  exact ⟨rfl, vs', HF.out, HT.out⟩
end Go.Proofs.Ytkemkoiknoefdaa
