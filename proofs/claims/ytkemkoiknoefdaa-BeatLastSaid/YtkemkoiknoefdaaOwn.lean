/- Slices that the call itself made, wherever in their block they begin: append, reslice, store. -/
import Derived.Test.YtkemkoiknoefdaaCore
import Derived.Maps.AppendAt
namespace Go.Proofs.Ytkemkoiknoefdaa
open Go.RowKit
set_option linter.unusedVariables false
set_option linter.unusedSimpArgs false

/-- The slice value v, of n elements of sz cells each, owns the cells xs in a block from base on. -/
def Own (base : Nat) (E : TypeId) (sz : Nat) (w : World) (v : Value) (n : Nat) (xs : List Value) : Prop :=
  xs.length = n * sz ∧ ((v = .slice none 0 0 ∧ n = 0) ∨
    ∃ g off cap c, v = .slice (some ⟨g, off, none⟩) n cap ∧ base ≤ g ∧ w.heap[g]? = some (.cells c E (0, 0)) ∧ n ≤ cap ∧ off + cap * sz ≤ c.size ∧ cap ≤ maxLen ∧ ∀ i (h : i < xs.length), c[off + i]? = some xs[i])

theorem Own.nil (base : Nat) (E : TypeId) (sz : Nat) (w : World) : Own base E sz w (.slice none 0 0) 0 [] := ⟨by simp, .inl ⟨rfl, rfl⟩⟩
theorem Own.kept {base : Nat} {E : TypeId} {sz : Nat} {S : List Nat} {w w' : World} {v : Value} {n : Nat} {xs : List Value} (h : Own base E sz w v n xs) (hk : Kept S w w') (hn : NotIn S v) : Own base E sz w' v n xs := by
  obtain ⟨hl, h | ⟨g, off, cap, c, rfl, hb, hg, rest⟩⟩ := h
  · exact ⟨hl, .inl h⟩
  · exact ⟨hl, .inr ⟨g, off, cap, c, rfl, hb, hk.blk hg (hn g rfl), rest⟩⟩
theorem Own.lt {base : Nat} {E : TypeId} {sz : Nat} {w : World} {v : Value} {n : Nat} {xs : List Value} (h : Own base E sz w v n xs) : ∀ k, v.ownBlock = some k → base ≤ k ∧ k < w.heap.size := by
  obtain ⟨hl, ⟨rfl, _⟩ | ⟨g, off, cap, c, rfl, hb, hg, rest⟩⟩ := h
  · intro k hk; cases hk
  · intro k hk
    obtain rfl : g = k := by simpa [Value.ownBlock] using hk
    exact ⟨hb, lt_of_blk hg⟩
theorem Own.base {base base' : Nat} {E : TypeId} {sz : Nat} {w : World} {v : Value} {n : Nat} {xs : List Value} (h : Own base E sz w v n xs) (hb : base' ≤ base) : Own base' E sz w v n xs := by
  obtain ⟨hl, h | ⟨g, off, cap, c, rfl, hb', rest⟩⟩ := h
  · exact ⟨hl, .inl h⟩
  · exact ⟨hl, .inr ⟨g, off, cap, c, rfl, by omega, rest⟩⟩
theorem Own.sl {base : Nat} {E : TypeId} {w : World} {v : Value} {n : Nat} {xs : List Value} (h : Own base E 1 w v n xs) : Sl w v xs := by
  obtain ⟨hl, ⟨rfl, h⟩ | ⟨g, off, cap, c, rfl, hb, hg, hn, hs, hm, hc⟩⟩ := h
  · obtain rfl : xs = [] := List.eq_nil_of_length_eq_zero (by omega)
    exact Sl.nil w
  · refine ⟨_, cap, by rw [hl, Nat.mul_one], by omega, hm, fun hp => ⟨g, off, rfl, fun i hi => (cell_of hg).trans (hc i hi)⟩⟩
theorem Own.of_row {base : Nat} {E : TypeId} {sz : Nat} {w : World} {v : Value} {n : Nat} {xs : List Value} (h : w.ownsRow base E sz v n xs) : Own base E sz w v n xs := by
  obtain ⟨hl, h | ⟨g, cap, cur, rfl, hb, hg, hn, hm, hs, ht⟩⟩ := h
  · exact ⟨hl, .inl h⟩
  · refine ⟨hl, .inr ⟨g, 0, cap, cur, rfl, hb, hg, hn, by omega, hm, fun i hi => ?_⟩⟩
    have h2 : xs[i]? = cur.toList[i]? := by rw [← ht, List.getElem?_take, if_pos (by omega)]
    rw [List.getElem?_eq_getElem hi] at h2
    rw [Nat.zero_add, h2]; simp
theorem Own.form {base : Nat} {E : TypeId} {sz : Nat} {w : World} {v : Value} {n : Nat} {xs : List Value} (h : Own base E sz w v n xs) : ∃ a cap, v = .slice a n cap ∧ n ≤ cap ∧ cap ≤ maxLen := by
  obtain ⟨hl, ⟨rfl, rfl⟩ | ⟨g, off, cap, c, rfl, hb, hg, hn, hs, hm, hc⟩⟩ := h
  · exact ⟨none, 0, rfl, Nat.le_refl _, by simp⟩
  · exact ⟨_, cap, rfl, hn, hm⟩
theorem Own.at {base : Nat} {E : TypeId} {sz : Nat} {w : World} {a : Option Addr} {n m cap : Nat} {xs : List Value} (h : Own base E sz w (.slice a m cap) n xs) (hn : 0 < n) : ∃ g off, a = some ⟨g, off, none⟩ ∧ base ≤ g ∧ ∀ i (h : i < xs.length), w.cell? ⟨g, off + i, none⟩ = some xs[i] := by
  obtain ⟨hl, ⟨h, h0⟩ | ⟨g, off, cap', c, h, hb, hg, hl', hs, hm, rest⟩⟩ := h
  · omega
  · cases h
    exact ⟨g, off, rfl, hb, fun i hi => (cell_of hg).trans (rest i hi)⟩

theorem setCells_blk (b : Nat) {E : TypeId} {fr : Nat × Nat} : ∀ (vs : List Value) (o : Nat) (w : World) (c : Array Value), w.heap[b]? = some (.cells c E fr) →
    ∃ c', (w.setCells b o vs).heap[b]? = some (.cells c' E fr) ∧ c'.size = c.size ∧ (∀ i, i < o ∨ o + vs.length ≤ i → c'[i]? = c[i]?) ∧ (∀ j (h : j < vs.length), o + j < c.size → c'[o + j]? = some vs[j])
  | [], o, w, c, h => ⟨c, h, rfl, fun _ _ => rfl, fun j h => by simp at h⟩
  | v :: vs, o, w, c, h => by
    obtain ⟨c', h1, h2, h3, h4⟩ := setCells_blk b vs (o + 1) (w.setCell ⟨b, o, none⟩ v) (c.setIfInBounds o v) (blk_set h v)
    refine ⟨c', h1, by simpa using h2, fun i hi => ?_, fun j hj hc => ?_⟩
    · rw [h3 i (by simp only [List.length_cons] at hi; omega), Array.getElem?_setIfInBounds, if_neg (by simp only [List.length_cons] at hi; omega)]
    · cases j with
      | zero =>
        rw [Nat.add_zero, h3 o (by omega)]
        simp only [Nat.add_zero] at hc
        rw [Array.getElem?_setIfInBounds, if_pos rfl, if_pos hc]; rfl
      | succ j =>
        have := h4 j (by simp at hj; omega) (by simp; omega)
        rw [show o + (j + 1) = o + 1 + j by omega, this]; simp
theorem setCells_kept (b : Nat) {S : List Nat} (hb : b ∈ S) : ∀ (vs : List Value) (o : Nat) (w : World), Kept S w (w.setCells b o vs)
  | [], _, w => Kept.refl _ w
  | v :: vs, o, w => ((Kept.refl S w).setCell (p := ⟨b, o, none⟩) hb v).trans (setCells_kept b hb vs (o + 1) _)

section
variable {P : Program} (w : World)
/-- append, onto whatever the call owns: the new value owns both; it lies in the old block or in a new one. -/
theorem run_append_Own (base : Nat) (t ty e : TypeId) (z : Value) (sz bytes : Nat) (ht : P.underlying t = some (.slice e)) (hinfo : (P.info? e).map (fun i => (i.zero, i.size, i.bytes)) = some (some z, sz, bytes))
    (hzs : z.cells.size = sz) (hsz : 0 < sz) (v : Value) (n : Nat) (xs : List Value) (hown : Own base e sz w v n xs)
    (ad : Addr) (m c : Nat) (news : List Value) (hl : news.length = m * sz) (hnews : ∀ j u, news[j]? = some u → w.cell? (ad.add j) = some u) (h1 : ∀ u ∈ news, u.oneCell' = true)
    (h63 : n + m ≤ maxLen) (hbytes : (n + m) * bytes ≤ 140737488355328) (hbase : base ≤ w.heap.size) :
    ∃ v' w', (Builtin.append_ #[t, t] ty #[v, .slice (some ad) m c]).run P w = .ok v' w' ∧ Own base e sz w' v' (n + m) (xs ++ news) ∧ w.grownBy w' v.ownBlock ∧
      (∀ k, v'.ownBlock = some k → v.ownBlock = some k ∨ w.heap.size ≤ k) := by
  obtain ⟨i, hi, hz, hsize, hby⟩ := info_parts hinfo
  obtain ⟨hlen, ⟨rfl, rfl⟩ | ⟨g, off, cap, cur, rfl, hb, hg, hn, hs, hm, hc⟩⟩ := hown
  · obtain rfl : xs = [] := List.eq_nil_of_length_eq_zero (by omega)
    obtain ⟨v', w', hr, h2, h3, h4, h5⟩ := run_append_own_at (P := P) w base t ty e i z sz bytes ht hi hz hsize hby hzs hsz (.slice none 0 0) 0 [] (World.ownsRow_nil w base e sz) ad m c news hl hnews h1 h63 hbytes hbase
    refine ⟨v', w', hr, Own.of_row h2, h3, fun k hk => ?_⟩
    rcases h5 with h5 | h5
    · rw [h5] at hk; exact .inl hk
    · rw [h5] at hk; cases hk; exact .inr (Nat.le_refl _)
  · by_cases hroom : n + m ≤ cap
    · subst hsize
      have hmul : (n + m) * i.size ≤ cap * i.size := Nat.mul_le_mul_right _ hroom
      rw [Nat.add_mul] at hmul
      have hr := run_append_room_cells (P := P) w t ty e i ht hi g off n cap ad m c news hl hnews h1 hroom
        (fun j hj => by rw [cell_of hg, Array.getElem?_eq_getElem (by omega)]; rfl) (fun j hj => frozen_of hg)
      obtain ⟨c', k1, k2, k3, k4⟩ := setCells_blk g news (off + n * i.size) w cur hg
      refine ⟨_, _, hr, ⟨by rw [List.length_append, hlen, hl, Nat.add_mul], .inr ⟨g, off, cap, c', rfl, hb, k1, hroom, by rw [k2]; exact hs, hm, fun j hj => ?_⟩⟩, ?_, fun k hk => .inl hk⟩
      · by_cases e : j < xs.length
        · rw [List.getElem_append_left e, k3 _ (by omega)]; exact hc j e
        · rw [List.getElem_append_right (by omega)]
          have := k4 (j - xs.length) (by rw [List.length_append] at hj; omega) (by rw [List.length_append] at hj; omega)
          rw [← this]; congr 1; omega
      · exact (setCells_kept g (S := [g]) (by simp) news _ w).grownBy _ (fun k hk => by simp at hk; subst hk; rfl)
    · obtain ⟨v', w', hr, h2, h3⟩ := run_append_arg_grows (P := P) w t ty e i z sz bytes ht hi hz hsize hby hzs hsz ⟨g, off, none⟩ n cap xs hlen
        (fun j u hj => by
          obtain ⟨hj', rfl⟩ := List.getElem?_eq_some_iff.1 hj
          rw [Addr.add_lit, cell_of hg]; exact hc j hj') ad m c news hl hnews (by omega) h63 hbytes
      refine ⟨v', w', hr, (Own.of_row h2).base hbase, ⟨h3.os, h3.tape, h3.output, h3.size, fun k hk _ => h3.block k hk (by simp)⟩, fun k hk => ?_⟩
      exact .inr ((Own.of_row h2).lt k hk).1

theorem wpList_append_Own {ops : Array Oper} {rest : List Oper} {o : Oper} {a : Act} {Q : Exit → Act → World → Prop} (hgd : o.guard = none) (s x : Operand) (t : TypeId)
    (ho : o.op = .call { callee := .builtin .append, args := #[s, x], argTypes := #[t, t] })
    (base : Nat) (e : TypeId) (z : Value) (sz bytes : Nat) (ht : P.underlying t = some (.slice e)) (hinfo : (P.info? e).map (fun i => (i.zero, i.size, i.bytes)) = some (some z, sz, bytes))
    (hzs : z.cells.size = sz) (hsz : 0 < sz) (v : Value) (n : Nat) (xs : List Value) (hs : a.eval s = v) (hown : Own base e sz w v n xs)
    (ad : Addr) (m c : Nat) (news : List Value) (hx : a.eval x = .slice (some ad) m c) (hl : news.length = m * sz) (hnews : ∀ j u, news[j]? = some u → w.cell? (ad.add j) = some u) (h1 : ∀ u ∈ news, u.oneCell' = true)
    (h63 : n + m ≤ maxLen) (hbytes : (n + m) * bytes ≤ 140737488355328) (hbase : base ≤ w.heap.size)
    (h : ∀ v' w', Own base e sz w' v' (n + m) (xs ++ news) → w.grownBy w' v.ownBlock → (∀ k, v'.ownBlock = some k → v.ownBlock = some k ∨ w.heap.size ≤ k) → wpList P ops Q rest (a.put o.dst v') w') :
    wpList P ops Q (o :: rest) a w := by
  refine wpList_plain hgd fun K hK => ?_
  obtain ⟨v', w', hr, h2, h3, h4⟩ := run_append_Own (P := P) w base t o.type e z sz bytes ht hinfo hzs hsz v n xs hown ad m c news hl hnews h1 h63 hbytes hbase
  unfold Oper.wp execOp
  simp only [ho, resolve, invoke, builtin, Sem.run_bind, Sem.run_pure, Result.andThen_ok, List.map_toArray, List.map_cons, List.map_nil, hs, hx, hr]
  exact hK _ _ (h v' w' h2 h3 h4)
end

/-- A list of one-cell elements. -/
def OwnL (base : Nat) (E : TypeId) (w : World) (v : Value) (xs : List Value) : Prop := Own base E 1 w v xs.length xs
theorem OwnL.sl {base : Nat} {E : TypeId} {w : World} {v : Value} {xs : List Value} (h : OwnL base E w v xs) : Sl w v xs := Own.sl h
theorem OwnL.nil (base : Nat) (E : TypeId) (w : World) : OwnL base E w (.slice none 0 0) [] := Own.nil _ _ _ _
theorem OwnL.kept {base : Nat} {E : TypeId} {S : List Nat} {w w' : World} {v : Value} {xs : List Value} (h : OwnL base E w v xs) (hk : Kept S w w') (hn : NotIn S v) : OwnL base E w' v xs := Own.kept h hk hn
theorem OwnL.lt {base : Nat} {E : TypeId} {w : World} {v : Value} {xs : List Value} (h : OwnL base E w v xs) : ∀ k, v.ownBlock = some k → base ≤ k ∧ k < w.heap.size := Own.lt h
theorem OwnL.base {base base' : Nat} {E : TypeId} {w : World} {v : Value} {xs : List Value} (h : OwnL base E w v xs) (hb : base' ≤ base) : OwnL base' E w v xs := Own.base h hb
theorem OwnL.form {base : Nat} {E : TypeId} {w : World} {v : Value} {xs : List Value} (h : OwnL base E w v xs) : ∃ a cap, v = .slice a xs.length cap ∧ xs.length ≤ cap ∧ cap ≤ maxLen := Own.form h

theorem OwnL.cellAt {base : Nat} {E : TypeId} {w : World} {a : Option Addr} {n cap : Nat} {xs : List Value} (h : OwnL base E w (.slice a n cap) xs) {i : Nat} (hi : i < xs.length) :
    ∃ g off, a = some ⟨g, off, none⟩ ∧ base ≤ g ∧ w.cell? ⟨g, off + i, none⟩ = some xs[i] ∧ w.frozen? ⟨g, off + i, none⟩ = false ∧ ∀ v, OwnL base E (w.setCell ⟨g, off + i, none⟩ v) (.slice a n cap) (xs.set i v) := by
  obtain ⟨hl, ⟨h, h0⟩ | ⟨g, off, cap', c, h, hb, hg, hl', hs, hm, rest⟩⟩ := h
  · omega
  · cases h
    refine ⟨g, off, rfl, hb, (cell_of hg).trans (rest i hi), frozen_of hg, fun v => ⟨by simp, .inr ⟨g, off, cap, c.setIfInBounds (off + i) v, by rw [List.length_set], hb, blk_set hg v, by rw [List.length_set]; omega, by simpa using hs, hm, fun j hj => ?_⟩⟩⟩
    rw [Array.getElem?_setIfInBounds, List.getElem_set]
    by_cases e : i = j
    · subst e; rw [if_pos rfl, if_pos (by omega)]; simp
    · rw [if_neg (by omega), if_neg e]; exact rest j (by simpa using hj)

/-- v[1:] -/
theorem OwnL.tail {base : Nat} {E : TypeId} {w : World} {g off n cap : Nat} {x : Value} {l : List Value} (h : OwnL base E w (.slice (some ⟨g, off, none⟩) n cap) (x :: l)) :
    (¬ cap = 1 → OwnL base E w (.slice (some ⟨g, off + 1, none⟩) l.length (cap - 1)) l) ∧ (cap = 1 → OwnL base E w (.slice (some ⟨g, off, none⟩) l.length (cap - 1)) l) := by
  obtain ⟨hl, ⟨h, h0⟩ | ⟨g', off', cap', c, h, hb, hg, hn, hs, hm, hc⟩⟩ := h
  · cases h
  · cases h
    simp only [List.length_cons] at hn
    refine ⟨fun hne => ⟨by simp, .inr ⟨g, off + 1, cap - 1, c, rfl, hb, hg, by omega, by omega, by omega, fun i hi => ?_⟩⟩, fun he => ⟨by simp, .inr ⟨g, off, cap - 1, c, rfl, hb, hg, by omega, by omega, by omega, fun i hi => ?_⟩⟩⟩
    · have := hc (i + 1) (by simp; omega)
      rw [show off + 1 + i = off + (i + 1) by omega, this]; simp
    · omega

theorem OwnL.form' {base : Nat} {E : TypeId} {w : World} {v : Value} {xs : List Value} (h : OwnL base E w v xs) : ∃ a n cap, v = .slice a n cap := by
  obtain ⟨a, cap, h, _⟩ := h.form
  exact ⟨a, _, cap, h⟩
/-- Behind an append of one element that was laid in a block of its own. -/
theorem Kept.appended {S : List Nat} {a w w' : World} {x : Value} {t : TypeId} {v : Value} (h : Kept S a w) (hg : (w.alloc (.cells #[x] t)).grownBy w' v.ownBlock) (hv : ∀ k, v.ownBlock = some k → k < a.heap.size → k ∈ S) : Kept S a w' :=
  (h.alloc _).grown hg hv
theorem one_cell_news {x : Value} (h : x.oneCell' = true) : ∀ u ∈ [x], u.oneCell' = true := by
  intro u hu; simp at hu; subst hu; exact h

section
variable {P : Program} (w : World)
/-- append(s, x), x one cell that was laid in a block of its own just now. -/
theorem wpList_append_L {ops : Array Oper} {rest : List Oper} {o : Oper} {a : Act} {Q : Exit → Act → World → Prop} (hgd : o.guard = none) (s y : Operand) (t : TypeId)
    (ho : o.op = .call { callee := .builtin .append, args := #[s, y], argTypes := #[t, t] })
    (base : Nat) (e T : TypeId) (z : Value) (bytes : Nat) (ht : P.underlying t = some (.slice e)) (hinfo : (P.info? e).map (fun i => (i.zero, i.size, i.bytes)) = some (some z, 1, bytes))
    (hzs : z.cells.size = 1) (v : Value) (xs : List Value) (x : Value) (hs : a.eval s = v) (hown : OwnL base e w v xs) (H : Nat) (hx : a.eval y = .slice (some ⟨H, 0, none⟩) 1 1) (hH : H = w.heap.size)
    (h1 : x.oneCell' = true) (h63 : xs.length + 1 ≤ maxLen) (hbytes : (xs.length + 1) * bytes ≤ 140737488355328) (hbase : base ≤ w.heap.size)
    (h : ∀ v' w', OwnL base e w' v' (xs ++ [x]) → (∀ S, (∀ k, v.ownBlock = some k → k ∈ S) → Kept S w w') → (∀ k, v'.ownBlock = some k → v.ownBlock = some k ∨ w.heap.size ≤ k) → wpList P ops Q rest (a.put o.dst v') w') :
    wpList P ops Q (o :: rest) a (w.alloc (.cells #[x] T)) := by
  subst hH
  refine wpList_append_Own _ hgd s y t ho base e z 1 bytes ht hinfo hzs (by decide) v xs.length xs hs (hown.kept ((Kept.refl [] _).alloc _) (fun _ _ => by simp)) ⟨w.heap.size, 0, none⟩ 1 1 [x] hx rfl (cell_one_new _ _ _) (one_cell_news h1) h63 hbytes (by simp; omega) ?_
  intro v' w' h2 h3 h4
  refine h v' w' (by unfold OwnL; rw [List.length_append]; exact h2) (fun S hS => Kept.appended (Kept.refl S w) h3 (fun k hk _ => hS k hk)) (fun k hk => ?_)
  rcases h4 k hk with h | h
  · exact .inl h
  · simp at h; exact .inr (by omega)
end

end Go.Proofs.Ytkemkoiknoefdaa
