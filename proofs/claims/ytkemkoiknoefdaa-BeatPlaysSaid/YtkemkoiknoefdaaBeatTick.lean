/- The beat's Tick. -/
import Derived.Test.YtkemkoiknoefdaaBeatOps
namespace Go.Proofs.Ytkemkoiknoefdaa
open Go.RowKit
set_option linter.unusedVariables false
set_option linter.unusedSimpArgs false

theorem OwnL.step {base : Nat} {E : TypeId} {w w' : World} {v : Value} {xs : List Value} {B B' : Nat → Prop} (h : OwnL base E w v xs) (hS : Step w w' B B') (hv : ∀ k, v.ownBlock = some k → ¬ B k) : OwnL base E w' v xs := by
  obtain ⟨S, h1, h2, h3⟩ := hS
  refine h.kept h1 (fun k hk hm => ?_)
  rcases h2 k hm with h4 | h4
  · exact hv k hk h4
  · have := (h.lt k hk).2; omega
theorem ids_length (l : List Tm) : (ids l).length = l.length := by simp [ids]
theorem ids_get (l : List Tm) (i : Nat) (h : i < l.length) : (ids l)[i]'(by rw [ids_length]; exact h) = .int .i64 l[i].id := by simp [ids]
theorem Step.drew {w w' : World} {B B' : Nat → Prop} (h : Step w.drew w' B B') : Step w w' B B' := by
  obtain ⟨S, s1, s2, s3⟩ := h
  exact ⟨S, ⟨s1.os, s1.tape, s1.output, s1.size, s1.block⟩, s2, s3⟩
/-- A step of the wheel alone, told of the beat's blocks. -/
theorem Step.more {w w' : World} {B B' : Nat → Prop} (bb : Nat) (h : Step w w' B B') : Step w w' (fun k => k = bb ∨ B k) (fun k => k = bb ∨ B' k) := by
  obtain ⟨S, s1, s2, s3⟩ := h
  refine ⟨S, s1, fun k hk => (s2 k hk).imp .inr id, fun k hk => ?_⟩
  rcases hk with rfl | hk
  · exact .inl (.inl rfl)
  · exact (s3 k hk).imp .inr id
def beatO (nn me beat miss wb e : Nat) : Obj := .cells #[.int .i64 (nn : Int), .int .i64 (me : Int), .int .u64 (beat : Int), .int .u64 (miss : Int), .pointer (some ⟨wb, 0, none⟩), .int .u16 (e : Int)] 48 (0, 0)
/-- What stands ahead of round i of Tick's loop. -/
structure BL (w2 wr : World) (bb wb : Nat) (B2 : Nat → Prop) (nn me beat miss m n e : Nat) (L0 l : List Tm) (i : Nat) (f : Bool) : Prop where
  fl : f = true ↔ ∃ t ∈ l.take i, t.id = 16
  ex : ∃ B' e', wr.heap[bb]? = some (beatO nn me beat miss wb e') ∧ WR wr wb B' m (if f = true then n + 1 else n) (if f = true then L0 ++ [⟨m + beat, 16, n + 1⟩] else L0) ∧ ¬ B' bb ∧ e' < 65536 ∧ (∀ j, j < 16 → e'.testBit j = (e.testBit j && !decide (∃ t ∈ l.take i, t.id = (j : Int)))) ∧ Step w2 wr (fun k => k = bb ∨ B2 k) (fun k => k = bb ∨ B' k)
def BTick (w : World) (bb : Nat) (C : Nat → Prop) (nn me beat miss now n D : Nat) (H : Nat → Nat) (r : Ending) (w' : World) : Prop :=
  r = .returned (.bool (decide (D = now + 1))) ∧ ∃ C' e' n', n' ≤ n + 1 ∧ BT w' bb C' nn me beat miss (now + 1) n' (if D = now + 1 then now + 1 + beat else D) H e' ∧ Step w w' C C'
set_option maxRecDepth 100000 in
set_option maxHeartbeats 4000000 in
theorem beat_tick {w : World} {bb nn me beat miss now n D e : Nat} {C : Nat → Prop} {H : Nat → Nat} (h : BT w bb C nn me beat miss now n D H e) (hn : n < 999999) (hnow : now ≤ 1000000) :
    Calls Try.prog 14 #[.pointer (some ⟨bb, 0, none⟩)] w (BTick w bb C nn me beat miss now n D H) := by
  obtain ⟨wb, B, L, h1, h2, h3, h4, h5⟩ := h.ex
  obtain ⟨n1, n2, n3, n4, n5, n6, n7, n8⟩ := h.nums
  have HBITS := hid h.bits
  have HNONE := hid h.none
  have c4 : w.cell? ⟨bb, 4, none⟩ = some (.pointer (some ⟨wb, 0, none⟩)) := (cell_of h1).trans rfl
  have H1 := hid h1
  have H2 := hid h2
  have H3 := hid h3
  have H4 := hid h4
  have H5 := hid h5
  obtain ⟨m, hm⟩ : ∃ m, m = now + 1 := ⟨_, rfl⟩
  have HM := hid hm
  have hm9 : m ≤ 1000001 := by omega
  clear h h1 h2 h3 h4 h5 hm
  go_enter Try.func14, Try.ntmps14
  go_wp2_with fail
  refine (wr_tick H2.out (by omega)).mono ?_
  rintro r w2 ⟨v, B2, rfl, hO2, hA2, hR2, hS2⟩
  rw [← HM.out] at hO2 hR2
  obtain ⟨l, hl⟩ : ∃ l, l = dues L m := ⟨_, rfl⟩
  obtain ⟨L0, hL0⟩ : ∃ L0, L0 = late L m := ⟨_, rfl⟩
  rw [← hl] at hO2
  rw [← hL0] at hR2
  obtain ⟨va, vc, hv, hvc, hvm⟩ := hO2.form
  rw [ids_length] at hv hvc
  subst hv
  unfold maxLen at hvm
  have hvb : ∀ k, (Value.slice va l.length vc).ownBlock = some k → ¬ (k = bb ∨ B2 k) := fun k hk hb => by
    rcases hb with rfl | hb
    · have := (hO2.lt k hk).1; have := lt_of_blk H1.out; omega
    · exact hA2 k hk hb
  have HLM := hid (fun t => by rw [hl]; unfold dues; simp [List.mem_filter] : ∀ t : Tm, t ∈ l ↔ t ∈ L ∧ t.due = m)
  have HL0M := hid (fun t => by rw [hL0]; unfold late; simp [List.mem_filter] : ∀ t : Tm, t ∈ L0 ↔ t ∈ L ∧ t.due ≠ m)
  have HO2 := hid hO2
  have HVB := hid hvb
  have HR2 := hid hR2
  have HS2 := hid (hS2.more bb)
  have HB2 := hid (hS2.blk H1.out H3.out : w2.heap[bb]? = some (beatO nn me beat miss wb e))
  have HN2 := hid (hS2.nb (lt_of_blk H1.out) H3.out)
  have HAP := hid (by rw [hl]; exact H2.out.ids.filter _ : l.Pairwise fun x y => x.id ≠ y.id)
  clear hO2 hA2 hR2 hS2 hvb hl hL0 c4
  go_wp2
  go_loopw [3, 7, 20] (fun fv u1 iv wr => ∃ (i : Nat) (f : Bool), i ≤ l.length ∧ iv = .int .i64 (i : Int) ∧ fv = .bool f ∧ BL w2 wr bb wb B2 nn me beat miss m n e L0 l i f) (fun _ _ iv _ => l.length - (intOf iv).toNat)
  case atStart => exact ⟨0, false, by omega, rfl, rfl, by simp, B2, e, HB2.out, by simpa using HR2.out, HN2.out, n8, fun j hj => by simp, Step.still _ (Kept.refl _ _)⟩
  case round =>
    obtain ⟨i, f, hi, rfl, rfl, hb⟩ := hrel
    have HBL := hid hb
    clear hb
    by_cases hlt : i < l.length
    · have hlti : (i : Int) < (l.length : Int) := by omega
      obtain ⟨B', e', x1, x2, x3, x4, x5, x6⟩ := HBL.out.ex
      obtain ⟨g, off, rfl, _, hcell, _, _⟩ := OwnL.cellAt (HO2.out.step x6 HVB.out) (i := i) (by rw [ids_length]; exact hlt)
      rw [ids_get l i hlt] at hcell
      have htk : l.take (i + 1) = l.take i ++ [l[i]] := List.take_succ_eq_append_getElem hlt
      have hmem := List.getElem_mem hlt
      have hap : ∀ t ∈ l.take i, t.id ≠ l[i].id := fun t ht => by
        have := HAP.out
        rw [← List.take_append_drop (i + 1) l, htk] at this
        have h9 := (List.pairwise_append.1 (List.pairwise_append.1 this).1).2.2 t ht l[i] (by simp)
        exact h9
      obtain ⟨t, ht⟩ : ∃ t, t = l[i] := ⟨_, rfl⟩
      rw [← ht] at hcell htk hmem hap
      have d2 : wr.cell? ⟨bb, 2, none⟩ = some (.int .u64 (beat : Int)) := (cell_of x1).trans rfl
      have d4 : wr.cell? ⟨bb, 4, none⟩ = some (.pointer (some ⟨wb, 0, none⟩)) := (cell_of x1).trans rfl
      have d5 : wr.cell? ⟨bb, 5, none⟩ = some (.int .u16 (e' : Int)) := (cell_of x1).trans rfl
      have f5 : wr.frozen? ⟨bb, 5, none⟩ = false := frozen_of x1
      have X1 := hid x1
      have X2 := hid x2
      have X3 := hid x3
      have X5 := hid x5
      have X6 := hid x6
      have HTK := hid htk
      have HMEM := hid ((HLM.out t).1 hmem)
      have HAPT := hid hap
      clear x1 x2 x3 x5 x6 htk hmem hap ht
      by_cases h16 : t.id = 16
      · have hno : ¬ f = true := fun hf => by
          obtain ⟨x, hx, hx2⟩ := HBL.out.fl.1 hf
          exact HAPT.out x hx (hx2.trans h16.symm)
        obtain rfl : f = false := by simpa using hno
        have hless : less L0 16 = L0 := less_none (fun x hx e => by
          have h9 := (HL0M.out x).1 hx
          have := H2.out.uniq h9.1 HMEM.out.1 (e.trans h16.symm)
          subst this
          exact h9.2 HMEM.out.2)
        have hx2 := X2.out
        rw [if_neg (by simp), if_neg (by simp)] at hx2
        have HX2 := hid hx2
        have HLESS := hid hless
        have H16 := hid h16
        have hei : (t.id == 16) = true := by simp [h16]
        rw [h16] at hcell
        clear hx2 hless hno h16
        go_wp2
        refine wp_region_quiet_tail 8 (by kernel_rfl) (by kernel_rfl) ?_
        simp only [List.take_succ_cons, List.take_zero, List.drop_succ_cons, List.drop_zero]
        repeat (go_big_quiet_step (fail))
        refine wpQuiet_nil ?_
        go_wp2_with fail
        refine (wr_arm (HX2.out.still (w' := wr.drew) ⟨rfl, rfl, rfl, Nat.le_refl _, fun _ _ _ => rfl⟩) 16 (by decide) beat n3 (by omega) (by omega)).mono ?_
        rintro r w4 ⟨rfl, B4, hR4, hS4⟩
        rw [HLESS.out] at hR4
        have hS4' := hS4.drew
        have hBL4 : BL w2 w4 bb wb B2 nn me beat miss m n e L0 l (i + 1) true := ⟨by simp; exact ⟨t, by rw [HTK.out]; simp, H16.out⟩, B4, e', hS4'.blk X1.out X3.out, by simpa using hR4, hS4'.nb (lt_of_blk X1.out) X3.out, x4, fun j hj => by
          rw [X5.out j hj, HTK.out]
          have hne : ¬ t.id = (j : Int) := by have := H16.out; omega
          congr 2
          simp [List.mem_append, or_and_right, exists_or, hne], X6.out.trans (hS4'.more bb)⟩
        have HBL4 := hid hBL4
        clear hBL4 hR4 hS4 hS4'
        go_wp2_with fail
        go_roundw
        case rel => exact ⟨i + 1, true, by omega, by go_num, rfl, HBL4.out⟩
        case measure => simp [intOf]; omega
      · have hidj : ∃ j : Nat, j < 16 ∧ t.id = (j : Int) := by
          rcases H5.out.all t HMEM.out.1 with h9 | ⟨j, hj, _, he, _⟩
          · exact absurd h9.1 h16
          · exact ⟨j, hj, he⟩
        obtain ⟨j, hj, hje⟩ := hidj
        rw [hje] at hcell
        have hei : ((j : Int) == 16) = false := beq_eq_false_iff_ne.2 (by omega)
        have HJE := hid hje
        have H16 := hid h16
        clear hje h16
        go_wp2_with fail
        refine (without_any e' j x4 hj wr).mono ?_
        rintro r w' ⟨rfl, rfl⟩
        have b4 : (wr.setCell ⟨bb, 5, none⟩ (.int .u16 (setOut e' j : Int))).heap[bb]? = some (beatO nn me beat miss wb (setOut e' j)) := by have := blk_set (o := 5) X1.out (.int .u16 (setOut e' j : Int)); unfold beatO; simpa using this
        have hset : Kept [bb] wr (wr.setCell ⟨bb, 5, none⟩ (.int .u16 (setOut e' j : Int))) := (Kept.refl _ _).setCell (by simp) _
        have hBL4 : BL w2 (wr.setCell ⟨bb, 5, none⟩ (.int .u16 (setOut e' j : Int))) bb wb B2 nn me beat miss m n e L0 l (i + 1) f := ⟨by
          rw [HBL.out.fl, HTK.out]
          constructor
          · rintro ⟨x, hx, hx2⟩; exact ⟨x, by simp [hx], hx2⟩
          · rintro ⟨x, hx, hx2⟩
            rcases List.mem_append.1 hx with hx | hx
            · exact ⟨x, hx, hx2⟩
            · simp at hx; subst hx; exact absurd hx2 H16.out, B', _, b4, X2.out.kept hset (fun k hk => by simp at hk; subst hk; exact X3.out), X3.out, setOut_lt _ _, fun q hq => by
          rw [setOut_bit _ _ _ hq, X5.out q hq, HTK.out]
          by_cases e9 : j = q
          · subst e9
            have : decide (∃ x ∈ l.take i ++ [t], x.id = (j : Int)) = true := decide_eq_true ⟨t, by simp, HJE.out⟩
            rw [this]
            simp
          · have hne : ¬ t.id = (q : Int) := by rw [HJE.out]; omega
            have : (∃ x ∈ l.take i ++ [t], x.id = (q : Int)) ↔ (∃ x ∈ l.take i, x.id = (q : Int)) := by
              constructor
              · rintro ⟨x, hx, hx2⟩
                rcases List.mem_append.1 hx with hx | hx
                · exact ⟨x, hx, hx2⟩
                · simp at hx; subst hx; exact absurd hx2 hne
              · rintro ⟨x, hx, hx2⟩; exact ⟨x, by simp [hx], hx2⟩
            simp only [this]
            simp [e9], X6.out.trans ⟨[bb], hset, fun k hk => by simp at hk; exact .inl (.inl hk), fun k hk => .inl hk⟩⟩
        have HBL4 := hid hBL4
        clear hBL4 b4 hset
        go_wp2_with fail
        go_roundw
        case rel => exact ⟨i + 1, f, by omega, by go_num, rfl, HBL4.out⟩
        case measure => simp [intOf]; omega
    · obtain rfl : i = l.length := by omega
      obtain ⟨B', e', x1, x2, x3, x4, x5, x6⟩ := HBL.out.ex
      have hfl := HBL.out.fl
      rw [List.take_length] at hfl x5
      have hDm : f = decide (D = m) := by
        rw [Bool.eq_iff_iff, hfl]
        simp
        constructor
        · rintro ⟨t, ht, e9⟩
          obtain ⟨g1, g2⟩ := (HLM.out t).1 ht
          rcases H5.out.all t g1 with h9 | ⟨j, hj, _, he, _⟩
          · rw [← h9.2, g2]
          · omega
        · intro hD
          obtain ⟨t, ht, e9⟩ := H5.out.own
          rcases H5.out.all t ht with h9 | ⟨j, hj, _, he, _⟩
          · exact ⟨t, (HLM.out t).2 ⟨ht, by rw [h9.2, hD]⟩, e9⟩
          · omega
      have HF := hid hDm
      have X1 := hid x1
      have X2 := hid x2
      have X3 := hid x3
      have X5 := hid x5
      have X6 := hid x6
      clear x1 x2 x3 x5 x6 hfl hDm
      go_wp2
      go_ret
      have hgone : ∀ j : Nat, j < 16 → (∃ t ∈ l, t.id = (j : Int)) → H j = m := fun j hj ⟨t, ht, e9⟩ => by
        obtain ⟨g1, g2⟩ := (HLM.out t).1 ht
        rcases H5.out.all t g1 with h9 | ⟨q, hq, _, he, hd⟩
        · omega
        · have : q = j := by omega
          subst this
          rw [← hd, g2]
      have hcome : ∀ j : Nat, j < 16 → H j = m → (∃ t ∈ l, t.id = (j : Int)) := fun j hj hd => by
        obtain ⟨t, ht, e9⟩ := H5.out.any j hj (by have := HM.out; omega)
        rcases H5.out.all t ht with h9 | ⟨q, hq, _, he, hd2⟩
        · omega
        · have : q = j := by omega
          subst this
          exact ⟨t, (HLM.out t).2 ⟨ht, by rw [hd2, hd]⟩, e9⟩
      unfold BTick
      rw [← HM.out]
      refine ⟨by rw [HF.out]; rfl, fun k => k = bb ∨ B' k, e', (if f = true then n + 1 else n), by split <;> omega, ⟨⟨wb, B', _, X1.out, X2.out, X3.out, fun k => Iff.rfl, ?_⟩, ⟨n1, n2, n3, n4, n5, n6, ?_, x4⟩, fun j hj => ?_, HNONE.out⟩, ?_⟩
      · have hf := HF.out
        by_cases hD : D = m
        · rw [if_pos hD]
          have hft : f = true := by rw [hf]; simp [hD]
          rw [if_pos hft]
          refine ⟨fun t ht => ?_, ⟨⟨m + beat, 16, n + 1⟩, by simp, rfl⟩, fun j hj hd => ?_⟩
          · rcases List.mem_append.1 ht with ht | ht
            · obtain ⟨g1, g2⟩ := (HL0M.out t).1 ht
              rcases H5.out.all t g1 with h9 | h9
              · exact absurd (h9.2.trans hD) g2
              · exact .inr h9
            · simp at ht; subst ht; exact .inl ⟨rfl, rfl⟩
          · obtain ⟨t, ht, e9⟩ := H5.out.any j hj (by have := HM.out; omega)
            refine ⟨t, List.mem_append.2 (.inl ((HL0M.out t).2 ⟨ht, fun hdm => ?_⟩)), e9⟩
            have := hgone j hj ⟨t, (HLM.out t).2 ⟨ht, hdm⟩, e9⟩
            omega
        · rw [if_neg hD]
          have hft : ¬ f = true := by rw [hf]; simp [hD]
          rw [if_neg hft]
          refine ⟨fun t ht => H5.out.all t ((HL0M.out t).1 ht).1, ?_, fun j hj hd => ?_⟩
          · obtain ⟨t, ht, e9⟩ := H5.out.own
            refine ⟨t, (HL0M.out t).2 ⟨ht, fun hdm => ?_⟩, e9⟩
            rcases H5.out.all t ht with h9 | ⟨q, hq, _, he, _⟩
            · exact hD (by rw [← h9.2, hdm])
            · omega
          · obtain ⟨t, ht, e9⟩ := H5.out.any j hj (by have := HM.out; omega)
            refine ⟨t, (HL0M.out t).2 ⟨ht, fun hdm => ?_⟩, e9⟩
            have := hgone j hj ⟨t, (HLM.out t).2 ⟨ht, hdm⟩, e9⟩
            omega
      · have := HM.out
        by_cases hD : D = m
        · rw [if_pos hD]; omega
        · rw [if_neg hD]; omega
      · rw [X5.out j hj, HBITS.out j hj]
        by_cases hjm : j = me
        · subst hjm
          have : ¬ ∃ t ∈ l, t.id = (j : Int) := fun hx => by
            have := hgone j hj hx
            have h9 := HNONE.out
            have := HM.out
            omega
          simp [this]
        · by_cases hd : H j = m
          · have h9 := hcome j hj hd
            have : ¬ m < H j := by omega
            simp [h9, hjm, this]
          · have h9 : ¬ ∃ t ∈ l, t.id = (j : Int) := fun hx => hd (hgone j hj hx)
            have : (now < H j) ↔ (m < H j) := by have := HM.out; omega
            simp [h9, this]
      · have h9 : Step w w2 C (fun k => k = bb ∨ B2 k) := by
          obtain ⟨S, s1, s2, s3⟩ := HS2.out
          exact ⟨S, s1, fun k hk => (s2 k hk).imp (fun hb => (H4.out k).2 hb) id, fun k hk => (s3 k hk).imp (fun hb => (H4.out k).2 hb) id⟩
        exact h9.trans X6.out
end Go.Proofs.Ytkemkoiknoefdaa
