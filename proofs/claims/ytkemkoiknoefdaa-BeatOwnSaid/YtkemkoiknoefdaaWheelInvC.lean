/- What is armed: a tick. -/
import Derived.Test.YtkemkoiknoefdaaWheelInvB
namespace Go.Proofs.Ytkemkoiknoefdaa
set_option linter.unusedVariables false
set_option linter.unusedSimpArgs false

theorem seek_above (l : List Tm) (n : Nat) : ∀ (i k : Nat) (x : Tm), seek l n i ≤ k → k < i → l[k]? = some x → n < x.n
  | i + 1, k, x, h1, h2, h3 => by
    unfold seek at h1
    split at h1
    · rename_i he
      by_cases e : k = i
      · subst e
        rw [h3] at he
        simpa using he
      · exact seek_above l n i k x h1 (by omega) h3
    · omega
theorem seek_below (l : List Tm) (n : Nat) : ∀ (i : Nat) (x : Tm), i ≤ l.length → 0 < seek l n i → l[seek l n i - 1]? = some x → x.n ≤ n
  | 0, x, hi, h, hx => by simp [seek] at h
  | i + 1, x, hi, h, hx => by
    by_cases he : (l[i]?.map fun x => decide (n < x.n)) = some true
    · have e : seek l n (i + 1) = seek l n i := by show (if _ then _ else _) = _; rw [if_pos he]
      rw [e] at h hx
      exact seek_below l n i x (by omega) h hx
    · have e : seek l n (i + 1) = i + 1 := by show (if _ then _ else _) = _; rw [if_neg he]
      rw [e] at hx
      simp only [Nat.add_sub_cancel] at hx
      rw [hx] at he
      simp at he
      exact he
theorem ins_perm (l : List Tm) (t : Tm) : (ins l t).Perm (t :: l) := by
  unfold ins insAt
  refine List.perm_middle.trans ?_
  rw [List.take_append_drop]
theorem byn_get {l : List Tm} (h : ByN l) {i j : Nat} {x y : Tm} (hij : i < j) (hx : l[i]? = some x) (hy : l[j]? = some y) : x.n < y.n := by
  obtain ⟨h1, rfl⟩ := List.getElem?_eq_some_iff.1 hx
  obtain ⟨h2, rfl⟩ := List.getElem?_eq_some_iff.1 hy
  exact List.pairwise_iff_getElem.1 h i j h1 h2 hij
theorem ins_byn {l : List Tm} {t : Tm} (h : ByN l) (hn : ∀ x ∈ l, x.n ≠ t.n) : ByN (ins l t) := by
  have hq := seek_le l t.n l.length
  have htake : ∀ x ∈ l.take (seek l t.n l.length), x.n < t.n := fun x hx => by
    obtain ⟨k, hk⟩ := List.mem_iff_getElem?.1 hx
    rw [List.getElem?_take] at hk
    split at hk
    · rename_i hkq
      have hmem : x ∈ l := List.mem_of_getElem? hk
      have hne := hn x hmem
      obtain ⟨y, hy⟩ : ∃ y, l[seek l t.n l.length - 1]? = some y := ⟨_, List.getElem?_eq_getElem (by omega)⟩
      have h1 := seek_below l t.n l.length y (Nat.le_refl _) (by omega) hy
      by_cases e : k = seek l t.n l.length - 1
      · rw [← e, hk] at hy; cases hy; omega
      · have := byn_get h (show k < seek l t.n l.length - 1 by omega) hk hy; omega
    · cases hk
  have hdrop : ∀ x ∈ l.drop (seek l t.n l.length), t.n < x.n := fun x hx => by
    obtain ⟨k, hk⟩ := List.mem_iff_getElem?.1 hx
    rw [List.getElem?_drop] at hk
    exact seek_above l t.n l.length _ x (by omega) (by have := (List.getElem?_eq_some_iff.1 hk).1; omega) hk
  unfold ins insAt ByN
  refine List.pairwise_append.2 ⟨List.Pairwise.sublist (List.take_sublist _ _) h, List.pairwise_cons.2 ⟨hdrop, List.Pairwise.sublist (List.drop_sublist _ _) h⟩, fun x hx y hy => ?_⟩
  rcases List.mem_cons.1 hy with rfl | hy
  · exact htake x hx
  · have := htake x hx; have := hdrop y hy; omega

/-- What Tick has done, when the timers of 'done' were met armed. -/
structure Done (d : Int → Nat) (sz : Nat) (dn : List Tm) (k : Tk) : Prop where
  perm : k.due.Perm dn
  byn : ByN k.due
  gone : ∀ t ∈ dn, k.d t.id = 0
  left : ∀ id, (∀ t ∈ dn, t.id ≠ id) → k.d id = d id
  size : k.sz = sz - dn.length
theorem Done.step {d : Int → Nat} {sz : Nat} {dn : List Tm} {k : Tk} (h : Done d sz dn k) {t : Tm} (h1 : 1 ≤ t.n) (hl : lv d t = true) (ha : ∀ x ∈ dn, x.id ≠ t.id ∧ x.n ≠ t.n) : Done d sz (dn ++ [t]) (k.step t) := by
  have hd : d t.id = t.n := by simpa [lv] using hl
  have hk : k.d t.id = t.n := (h.left t.id (fun x hx => (ha x hx).1)).trans hd
  unfold Tk.step
  rw [if_pos hk, if_neg (by omega)]
  refine ⟨?_, ins_byn h.byn (fun x hx => (ha x (h.perm.mem_iff.1 hx)).2), fun x hx => ?_, fun id hid => ?_, ?_⟩
  · exact (ins_perm _ _).trans ((h.perm.cons t).trans (List.perm_append_comm (l₁ := [t])))
  · show (if x.id = t.id then 0 else k.d x.id) = 0
    rcases List.mem_append.1 hx with hx | hx
    · split
      · rfl
      · exact h.gone x hx
    · simp at hx; subst hx; simp
  · show (if id = t.id then 0 else k.d id) = d id
    rw [if_neg (fun e => hid t (by simp) e.symm)]
    exact h.left id (fun x hx => hid x (by simp [hx]))
  · show k.sz - 1 = _
    rw [h.size, List.length_append]; simp; omega
theorem Done.skip {d : Int → Nat} {sz : Nat} {dn : List Tm} {k : Tk} (h : Done d sz dn k) {t : Tm} (h1 : 1 ≤ t.n) (hl : lv d t = false) : Done d sz dn (k.step t) := by
  have hd : ¬ d t.id = t.n := by simpa [lv] using hl
  have hk : ¬ k.d t.id = t.n := by
    by_cases e : ∃ x ∈ dn, x.id = t.id
    · obtain ⟨x, hx, e⟩ := e
      rw [← e, h.gone x hx]; omega
    · rw [h.left t.id (fun x hx he => e ⟨x, hx, he⟩)]; exact hd
  unfold Tk.step
  rw [if_neg hk]
  exact h
theorem Done.fold {d : Int → Nat} {sz : Nat} : ∀ {l dn : List Tm} {k : Tk}, Done d sz dn k → (∀ t ∈ l, 1 ≤ t.n) → (dn ++ l.filter (lv d)).Pairwise (fun x y => x.id ≠ y.id ∧ x.n ≠ y.n) → Done d sz (dn ++ l.filter (lv d)) (l.foldl Tk.step k)
  | [], dn, k, h, _, _ => by simpa using h
  | t :: l, dn, k, h, h1, hp => by
    rw [List.foldl_cons]
    have h1' : ∀ t ∈ l, 1 ≤ t.n := fun x hx => h1 x (by simp [hx])
    by_cases hl : lv d t = true
    · rw [List.filter_cons_of_pos hl] at hp ⊢
      rw [show dn ++ t :: l.filter (lv d) = (dn ++ [t]) ++ l.filter (lv d) by simp] at hp ⊢
      refine (h.step (h1 t (by simp)) hl fun x hx => ?_).fold h1' hp
      exact (List.pairwise_append.1 (List.pairwise_append.1 hp).1).2.2 x hx t (by simp)
    · have hl : lv d t = false := by simpa using hl
      rw [List.filter_cons_of_neg (by simp [hl])] at hp ⊢
      exact (h.skip (h1 t (by simp)) hl).fold h1' hp
theorem place_now (now due : Nat) (h : now ≤ due) : place now due = now % 16 ↔ due = now := by
  unfold place
  refine ⟨fun e => ?_, fun e => by subst e; rw [if_pos rfl]⟩
  by_cases h1 : due / 16 = now / 16
  · rw [if_pos h1] at e; omega
  · rw [if_neg h1] at e
    repeat' split at e
    all_goals omega
theorem apart_inj {L : List Tm} (h : L.Pairwise fun x y => x.id ≠ y.id) {x y : Tm} (hx : x ∈ L) (hy : y ∈ L) (e : x.id = y.id) : x = y := by
  obtain ⟨i, hi, rfl⟩ := List.getElem_of_mem hx
  obtain ⟨j, hj, rfl⟩ := List.getElem_of_mem hy
  rcases Nat.lt_trichotomy i j with h1 | h1 | h1
  · exact absurd e (List.pairwise_iff_getElem.1 h i j hi hj h1)
  · subst h1; rfl
  · exact absurd e.symm (List.pairwise_iff_getElem.1 h j i hj hi h1)
/-- Those that are due at a tick; the others. -/
def dues (L : List Tm) (m : Nat) : List Tm := L.filter fun t => decide (t.due = m)
def late (L : List Tm) (m : Nat) : List Tm := L.filter fun t => decide (t.due ≠ m)
theorem dues_late (L : List Tm) (m : Nat) : (dues L m).length + (late L m).length = L.length := by
  have := (List.filter_append_perm (fun t : Tm => decide (t.due = m)) L).length_eq
  rw [List.length_append] at this
  unfold dues late
  rw [← this]
  congr 2
  exact List.filter_congr (fun t _ => by simp)
theorem inv_tick {now n cnt sz : Nat} {d : Int → Nat} {sl : Nat → List Tm} {L : List Tm} (h : Inv now n cnt d sz sl L) :
    (tick d sz (turned (now + 1) d sl ((now + 1) % 16))).due = dues L (now + 1) ∧
    Inv (now + 1) n cnt (tick d sz (turned (now + 1) d sl ((now + 1) % 16))).d (tick d sz (turned (now + 1) d sl ((now + 1) % 16))).sz (upd (turned (now + 1) d sl) ((now + 1) % 16) []) (late L (now + 1)) := by
  have hdue : ∀ t ∈ L, now + 1 ≤ t.due := fun t ht => h.due t ht
  have hs := h.spr.turned hdue
  obtain ⟨hist, hg⟩ := h.good
  have hgt := hg.turned (now := now + 1) (d := d)
  obtain ⟨m, hm⟩ : ∃ m, m = now + 1 := ⟨_, rfl⟩
  rw [← hm] at hs hgt hdue ⊢
  obtain ⟨p, hp⟩ : ∃ p, p = m % 16 := ⟨_, rfl⟩
  have hp81 : p < 81 := by omega
  rw [← hp]
  have htot := tot_turned m d sl
  generalize turned m d sl = tl at hs hgt htot ⊢
  have hA : ((tl p).filter (lv d)).Perm (dues L m) := by
    have h1 := hs p hp81
    have e : L.filter (fun t => decide (place m t.due = p)) = dues L m := List.filter_congr (fun t ht => by have := place_now m t.due (hdue t ht); rw [← hp] at this; simp [this])
    rwa [e] at h1
  have hsym : ∀ {x y : Tm}, (x.id ≠ y.id ∧ x.n ≠ y.n) → (y.id ≠ x.id ∧ y.n ≠ x.n) := fun h => ⟨h.1.symm, h.2.symm⟩
  have hLp : L.Pairwise (fun x y => x.id ≠ y.id ∧ x.n ≠ y.n) := by
    have := h.apart.and h.byn
    exact this.imp (fun ⟨a, b⟩ => ⟨a, by omega⟩)
  have hpw : ((tl p).filter (lv d)).Pairwise (fun x y => x.id ≠ y.id ∧ x.n ≠ y.n) := (List.Perm.pairwise_iff hsym hA).2 (hLp.filter _)
  have hdone : Done d sz ((tl p).filter (lv d)) (tick d sz (tl p)) := by
    have h0 : Done d sz [] ⟨d, sz, []⟩ := ⟨List.Perm.refl _, List.Pairwise.nil, by simp, fun _ _ => rfl, rfl⟩
    have := h0.fold (l := tl p) (fun t ht => (hgt p hp81 t ht).1) (by simpa using hpw)
    simpa [tick] using this
  generalize tick d sz (tl p) = k at hdone ⊢
  have hdn : k.due = dues L m := List.Perm.eq_of_pairwise (le := fun (x y : Tm) => x.n < y.n) (fun a b _ _ h1 h2 => by omega) hdone.byn (h.byn.filter _) (hdone.perm.trans hA)
  have hgone : ∀ t ∈ L, t.due = m → k.d t.id = 0 := fun t ht e => hdone.gone t (hA.mem_iff.2 (List.mem_filter.2 ⟨ht, by simp [e]⟩))
  have hid : ∀ x ∈ L, ∀ y ∈ L, x.id = y.id → x = y := fun x hx y hy e => apart_inj h.apart hx hy e
  have hkeep : ∀ t ∈ L, t.due ≠ m → k.d t.id = d t.id := fun t ht hne => hdone.left t.id (fun x hx e => by
    obtain ⟨h1, h2⟩ := List.mem_filter.1 (hA.mem_iff.1 hx)
    have := hid x h1 t ht e
    subst this
    simp at h2
    exact hne h2)
  have hor : ∀ id, k.d id = d id ∨ k.d id = 0 := fun id => by
    by_cases e : ∃ t ∈ (tl p).filter (lv d), t.id = id
    · obtain ⟨t, ht, e⟩ := e
      subst e
      exact .inr (hdone.gone t ht)
    · exact .inl (hdone.left id (fun t ht he => e ⟨t, ht, he⟩))
  have hmem : ∀ {t}, t ∈ late L m ↔ t ∈ L ∧ t.due ≠ m := fun {t} => by unfold late; simp [List.mem_filter]
  refine ⟨hdn, ?_⟩
  refine ⟨h.byn.filter _, h.apart.filter _, fun t ht => ?_, fun t ht => ?_, fun id hi => ?_, ?_, h.cnt, ⟨hist, fun i hi t ht => ?_⟩, fun i hi => ?_, ?_⟩
  · obtain ⟨h1, h2⟩ := hmem.1 ht
    have := hdue t h1
    omega
  · obtain ⟨h1, h2⟩ := hmem.1 ht
    rw [hkeep t h1 h2]; exact h.live t h1
  · rcases hor id with e | e
    · rw [e] at hi
      obtain ⟨t, ht, he⟩ := h.any id hi
      refine ⟨t, hmem.2 ⟨ht, fun e2 => ?_⟩, he⟩
      have := hgone t ht e2
      rw [he, e] at this
      exact hi this
    · exact absurd e hi
  · have h1 := dues_late L m
    have h2 := hA.length_eq
    have h3 := hdone.size
    have h4 := h.size
    omega
  · by_cases e : i = p
    · subst e; rw [upd_same] at ht; simp at ht
    · rw [upd_other _ _ e] at ht; exact hgt i hi t ht
  · by_cases e : i = p
    · subst e
      have e2 : (late L m).filter (fun t => decide (place m t.due = i)) = [] := List.filter_eq_nil_iff.2 (fun t ht => by
        obtain ⟨h1, h2⟩ := hmem.1 ht
        have := place_now m t.due (hdue t h1)
        rw [← hp] at this
        simp [this, h2])
      rw [upd_same, e2]
      exact List.Perm.refl _
    · rw [upd_other _ _ e]
      have e1 : (tl i).filter (lv k.d) = (tl i).filter (lv d) := List.filter_congr (fun t ht => by
        have hpos := (hgt i hi t ht).1
        unfold lv
        by_cases hl : d t.id = t.n
        · have hL : t ∈ L.filter (fun t => decide (place m t.due = i)) := (hs i hi).mem_iff.1 (List.mem_filter.2 ⟨ht, by simp [lv, hl]⟩)
          obtain ⟨h1, h2⟩ := List.mem_filter.1 hL
          simp at h2
          rw [hkeep t h1 (fun e2 => e (by rw [← h2]; rw [e2] at h2 ⊢; exact (place_now m m (Nat.le_refl _)).2 rfl ▸ hp.symm))]
        · rcases hor t.id with e3 | e3
          · rw [e3]
          · rw [e3]; simp [hl]; omega)
      have e2 : (late L m).filter (fun t => decide (place m t.due = i)) = L.filter (fun t => decide (place m t.due = i)) := by
        unfold late
        rw [List.filter_filter]
        refine List.filter_congr (fun t ht => ?_)
        have := place_now m t.due (hdue t ht)
        rw [← hp] at this
        by_cases e3 : place m t.due = i
        · have h3 : t.due ≠ m := fun e4 => e (by rw [← e3]; exact (this.2 e4))
          simp [e3, h3]
        · simp [e3]
      rw [e1, e2]
      exact hs i hi
  · have h1 := tot_upd tl p [] hp81
    have h2 := h.tot
    simp only [List.length_nil] at h1
    omega
end Go.Proofs.Ytkemkoiknoefdaa
