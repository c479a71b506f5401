/- The wheel in plain words: the timers that are armed, in the order in which they were; what the calls do to them. -/
import Derived.Test.YtkemkoiknoefdaaWheelTick
namespace Go.Proofs.Ytkemkoiknoefdaa
set_option linter.unusedVariables false
set_option linter.unusedSimpArgs false

/-- Is a timer of a list armed still? -/
def lv (d : Int → Nat) (t : Tm) : Bool := decide (d t.id = t.n)
theorem perm_or {α : Type} (p q : α → Bool) : ∀ l : List α, (∀ x ∈ l, ¬ (p x = true ∧ q x = true)) → (l.filter (fun x => p x || q x)).Perm (l.filter p ++ l.filter q)
  | [], _ => by simp
  | x :: l, h => by
    have ih := perm_or p q l (fun y hy => h y (by simp [hy]))
    have hx := h x (by simp)
    by_cases hp : p x = true
    · have hq : q x = false := by cases hqx : q x <;> simp_all
      simp only [List.filter_cons, hp, hq, Bool.or_false, if_true, List.cons_append]
      exact ih.cons x
    · have hp : p x = false := by cases hpx : p x <;> simp_all
      by_cases hq : q x = true
      · simp only [List.filter_cons, hp, hq, Bool.or_true, if_true]
        exact (ih.cons x).trans List.perm_middle.symm
      · have hq : q x = false := by cases hqx : q x <;> simp_all
        simp only [List.filter_cons, hp, hq, Bool.or_false]
        exact ih
theorem fold_lay (now : Nat) (d : Int → Nat) : ∀ (l : List Tm) (s : Nat → List Tm) (i : Nat), ((l.foldl (lay now d) s) i).filter (lv d) = (s i).filter (lv d) ++ (l.filter (lv d)).filter (fun t => decide (place now t.due = i))
  | [], s, i => by simp
  | t :: l, s, i => by
    rw [List.foldl_cons, fold_lay now d l]
    unfold lay
    by_cases h : d t.id = t.n
    · have hl : lv d t = true := by simp [lv, h]
      rw [if_pos h, List.filter_cons_of_pos hl]
      by_cases e : place now t.due = i
      · subst e
        rw [upd_same, List.filter_append, List.filter_cons_of_pos hl, List.filter_cons_of_pos (by simp)]
        simp
      · rw [upd_other _ _ (fun x => e x.symm), List.filter_cons_of_neg (by simp [e])]
    · have hl : lv d t = false := by simp [lv, h]
      rw [if_neg h, List.filter_cons_of_neg (by simp [hl])]
/-- The lists hold, each armed timer once, where f says. -/
def Spr (d : Int → Nat) (L : List Tm) (f : Tm → Nat) (sl : Nat → List Tm) : Prop := ∀ i, i < 81 → ((sl i).filter (lv d)).Perm (L.filter fun t => decide (f t = i))
theorem Spr.congr {d : Int → Nat} {L : List Tm} {f g : Tm → Nat} {sl : Nat → List Tm} (h : Spr d L f sl) (hg : ∀ t ∈ L, f t = g t) : Spr d L g sl := fun i hi => by
  have := h i hi
  have e : L.filter (fun t => decide (f t = i)) = L.filter (fun t => decide (g t = i)) := List.filter_congr (fun t ht => by rw [hg t ht])
  rwa [e] at this
theorem Spr.relay {now : Nat} {d : Int → Nat} {L : List Tm} {f : Tm → Nat} {sl : Nat → List Tm} (h : Spr d L f sl) {p : Nat} (hp : p < 81) : Spr d L (fun t => if f t = p then place now t.due else f t) (relay now d p sl) := fun i hi => by
  unfold Go.Proofs.Ytkemkoiknoefdaa.relay
  rw [fold_lay]
  have h1 : ((upd sl p [] i).filter (lv d)).Perm (L.filter fun t => decide (f t ≠ p ∧ f t = i)) := by
    by_cases e : i = p
    · subst e
      have e : L.filter (fun t => decide (f t ≠ i ∧ f t = i)) = [] := List.filter_eq_nil_iff.2 (fun t _ => by simp)
      rw [upd_same, e]
      exact List.Perm.refl _
    · rw [upd_other _ _ e]
      have := h i hi
      have e2 : L.filter (fun t => decide (f t = i)) = L.filter (fun t => decide (f t ≠ p ∧ f t = i)) := List.filter_congr (fun t ht => by simp; intro hx; omega)
      rwa [e2] at this
  have h2 : (((sl p).filter (lv d)).filter fun t => decide (place now t.due = i)).Perm (L.filter fun t => decide (f t = p ∧ place now t.due = i)) := by
    have := (h p hp).filter (fun t => decide (place now t.due = i))
    have e2 : (L.filter (fun t => decide (f t = p))).filter (fun t => decide (place now t.due = i)) = L.filter (fun t => decide (f t = p ∧ place now t.due = i)) := by
      rw [List.filter_filter]
      exact List.filter_congr (fun t ht => by simp [Bool.and_comm])
    rwa [e2] at this
  refine (h1.append h2).trans ?_
  refine (perm_or _ _ L (fun t _ => by simp; intro a b c; exact absurd c a)).symm.trans ?_
  rw [List.filter_congr]
  intro t ht
  by_cases e : f t = p <;> simp [e]
def gl (now q p : Nat) (g : Tm → Nat) (t : Tm) : Nat := if now % q = 0 then (if g t = p then place now t.due else g t) else g t
theorem Spr.lvl {now q : Nat} {d : Int → Nat} {L : List Tm} {f : Tm → Nat} {sl : Nat → List Tm} (h : Spr d L f sl) {p : Nat} (hp : p < 81) : Spr d L (gl now q p f) (lvl now d q p sl) := by
  unfold Go.Proofs.Ytkemkoiknoefdaa.lvl
  split
  · rename_i e
    exact (h.relay (now := now) hp).congr (fun t _ => by unfold gl; rw [if_pos e])
  · rename_i e
    exact h.congr (fun t _ => by unfold gl; rw [if_neg e])
theorem gl_or (now q p : Nat) (g : Tm → Nat) (t : Tm) : gl now q p g t = place now t.due ∨ (gl now q p g t = g t ∧ ¬ (now % q = 0 ∧ g t = p)) := by
  unfold gl
  by_cases e : now % q = 0
  · rw [if_pos e]
    by_cases e2 : g t = p
    · rw [if_pos e2]; exact .inl rfl
    · rw [if_neg e2]; exact .inr ⟨rfl, fun x => e2 x.2⟩
  · rw [if_neg e]; exact .inr ⟨rfl, fun x => e x.1⟩
theorem gl_fix {now q p : Nat} {g : Tm → Nat} {t : Tm} (h : g t = place now t.due) : gl now q p g t = place now t.due := by
  unfold gl
  split
  · split
    · rfl
    · exact h
  · exact h
theorem place_turn (now due : Nat) (h : now + 1 ≤ due) : place now due = place (now + 1) due ∨ ((now + 1) % 1048576 = 0 ∧ place now due = 80) ∨ ((now + 1) % 65536 = 0 ∧ place now due = 64 + (now + 1) / 65536 % 16) ∨
    ((now + 1) % 4096 = 0 ∧ place now due = 48 + (now + 1) / 4096 % 16) ∨ ((now + 1) % 256 = 0 ∧ place now due = 32 + (now + 1) / 256 % 16) ∨ ((now + 1) % 16 = 0 ∧ place now due = 16 + (now + 1) / 16 % 16) := by
  unfold place
  by_cases h1 : due / 16 = now / 16
  · rw [if_pos h1, if_pos (by omega)]; exact .inl rfl
  rw [if_neg h1]
  by_cases h2 : due / 256 = now / 256
  · rw [if_pos h2]
    by_cases e : (now + 1) % 16 = 0
    · by_cases e2 : due / 16 = (now + 1) / 16
      · exact .inr (.inr (.inr (.inr (.inr ⟨e, by omega⟩))))
      · rw [if_neg e2, if_pos (by omega)]; exact .inl rfl
    · rw [if_neg (by omega), if_pos (by omega)]; exact .inl rfl
  rw [if_neg h2]
  by_cases h3 : due / 4096 = now / 4096
  · rw [if_pos h3]
    by_cases e : (now + 1) % 256 = 0
    · by_cases e2 : due / 256 = (now + 1) / 256
      · exact .inr (.inr (.inr (.inr (.inl ⟨e, by omega⟩))))
      · rw [if_neg (by omega), if_neg e2, if_pos (by omega)]; exact .inl rfl
    · rw [if_neg (by omega), if_neg (by omega), if_pos (by omega)]; exact .inl rfl
  rw [if_neg h3]
  by_cases h4 : due / 65536 = now / 65536
  · rw [if_pos h4]
    by_cases e : (now + 1) % 4096 = 0
    · by_cases e2 : due / 4096 = (now + 1) / 4096
      · exact .inr (.inr (.inr (.inl ⟨e, by omega⟩)))
      · rw [if_neg (by omega), if_neg (by omega), if_neg e2, if_pos (by omega)]; exact .inl rfl
    · rw [if_neg (by omega), if_neg (by omega), if_neg (by omega), if_pos (by omega)]; exact .inl rfl
  rw [if_neg h4]
  by_cases h5 : due / 1048576 = now / 1048576
  · rw [if_pos h5]
    by_cases e : (now + 1) % 65536 = 0
    · by_cases e2 : due / 65536 = (now + 1) / 65536
      · exact .inr (.inr (.inl ⟨e, by omega⟩))
      · rw [if_neg (by omega), if_neg (by omega), if_neg (by omega), if_neg e2, if_pos (by omega)]; exact .inl rfl
    · rw [if_neg (by omega), if_neg (by omega), if_neg (by omega), if_neg (by omega), if_pos (by omega)]; exact .inl rfl
  rw [if_neg h5]
  by_cases e : (now + 1) % 1048576 = 0
  · exact .inr (.inl ⟨e, rfl⟩)
  · rw [if_neg (by omega), if_neg (by omega), if_neg (by omega), if_neg (by omega), if_neg (by omega)]; exact .inl rfl
theorem Spr.turned {now : Nat} {d : Int → Nat} {L : List Tm} {sl : Nat → List Tm} (h : Spr d L (fun t => place now t.due) sl) (hL : ∀ t ∈ L, now + 1 ≤ t.due) : Spr d L (fun t => place (now + 1) t.due) (turned (now + 1) d sl) := by
  rw [← part_zero]
  have h5 := h.lvl (now := now + 1) (q := 1048576) (p := 80) (by omega)
  have h4 := h5.lvl (now := now + 1) (q := 65536) (p := 64 + (now + 1) / 65536 % 16) (by omega)
  have h3 := h4.lvl (now := now + 1) (q := 4096) (p := 48 + (now + 1) / 4096 % 16) (by omega)
  have h2 := h3.lvl (now := now + 1) (q := 256) (p := 32 + (now + 1) / 256 % 16) (by omega)
  have h1 := h2.lvl (now := now + 1) (q := 16) (p := 16 + (now + 1) / 16 % 16) (by omega)
  refine h1.congr fun t ht => ?_
  have hc := place_turn now t.due (hL t ht)
  rcases gl_or (now + 1) 1048576 80 (fun t => place now t.due) t with e5 | ⟨e5, n5⟩
  · exact gl_fix (gl_fix (gl_fix (gl_fix e5)))
  rcases gl_or (now + 1) 65536 (64 + (now + 1) / 65536 % 16) (gl (now + 1) 1048576 80 (fun t => place now t.due)) t with e4 | ⟨e4, n4⟩
  · exact gl_fix (gl_fix (gl_fix e4))
  rcases gl_or (now + 1) 4096 (48 + (now + 1) / 4096 % 16) (gl (now + 1) 65536 (64 + (now + 1) / 65536 % 16) (gl (now + 1) 1048576 80 (fun t => place now t.due))) t with e3 | ⟨e3, n3⟩
  · exact gl_fix (gl_fix e3)
  rcases gl_or (now + 1) 256 (32 + (now + 1) / 256 % 16) (gl (now + 1) 4096 (48 + (now + 1) / 4096 % 16) (gl (now + 1) 65536 (64 + (now + 1) / 65536 % 16) (gl (now + 1) 1048576 80 (fun t => place now t.due)))) t with e2 | ⟨e2, n2⟩
  · exact gl_fix e2
  rcases gl_or (now + 1) 16 (16 + (now + 1) / 16 % 16) (gl (now + 1) 256 (32 + (now + 1) / 256 % 16) (gl (now + 1) 4096 (48 + (now + 1) / 4096 % 16) (gl (now + 1) 65536 (64 + (now + 1) / 65536 % 16) (gl (now + 1) 1048576 80 (fun t => place now t.due))))) t with e1 | ⟨e1, n1⟩
  · exact e1
  have q4 := e4.trans e5
  have q3 := e3.trans q4
  have q2 := e2.trans q3
  rw [e1, q2]
  rw [q2] at n1
  rw [q3] at n2
  rw [q4] at n3
  rw [e5] at n4
  rcases hc with hc | hc | hc | hc | hc | hc
  · exact hc
  · exact absurd hc n5
  · exact absurd hc n4
  · exact absurd hc n3
  · exact absurd hc n2
  · exact absurd hc n1
end Go.Proofs.Ytkemkoiknoefdaa
