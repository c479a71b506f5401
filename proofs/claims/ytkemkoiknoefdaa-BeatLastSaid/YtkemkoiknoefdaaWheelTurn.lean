/- The wheel's 'turn': lists that come near are laid anew. -/
import Derived.Test.YtkemkoiknoefdaaWheelAgain
namespace Go.Proofs.Ytkemkoiknoefdaa
open Go.RowKit Go.Maps
set_option linter.unusedVariables false
set_option linter.unusedSimpArgs false

/-- A list is taken out of the wheel. -/
theorem Wh.clear {w : World} {b mb now n cnt sz : Nat} {d : Int → Nat} {vs : Nat → Value} {sl : Nat → List Tm} (h : Wh w b mb now n cnt d sz vs sl) {p : Nat} (hp : p < 81) :
    Wh (w.setCell ⟨b, 3 + p, none⟩ (.slice none 0 0)) b mb now n cnt d sz (upd vs p (.slice none 0 0)) (upd sl p []) ∧ Turned w b mb vs (w.setCell ⟨b, 3 + p, none⟩ (.slice none 0 0)) (upd vs p (.slice none 0 0)) ∧
      Own 0 61 3 (w.setCell ⟨b, 3 + p, none⟩ (.slice none 0 0)) (vs p) (sl p).length (tms (sl p)) ∧ ∀ k, (vs p).ownBlock = some k → ¬ Wh.In b mb (upd vs p (.slice none 0 0)) k := by
  obtain ⟨cs, h0, h1, h2, h3, h4, h5⟩ := h.blk
  have hset : Kept [b] w (w.setCell ⟨b, 3 + p, none⟩ (.slice none 0 0)) := (Kept.refl _ _).setCell (by simp) _
  have hnil : ∀ k, (Value.slice none 0 0).ownBlock = some k → False := fun k hk => by cases hk
  refine ⟨⟨⟨_, blk_set h0 _, by simp [h1], by rw [Array.getElem?_setIfInBounds, if_neg (by omega)]; exact h2, by rw [Array.getElem?_setIfInBounds, if_neg (by omega)]; exact h3, by rw [Array.getElem?_setIfInBounds, if_neg (by omega)]; exact h4, fun i hi => ?_⟩, h.map.kept hset (by simp; exact fun e => h.bm e.symm), fun i hi => ?_, h.bm, fun i hi => ?_, fun i j hi hj hij k hk1 => ?_⟩, ⟨[b], hset, fun k hm => by simp at hm; exact .inl (.inl hm), fun k hm => ?_⟩, (h.own p hp).kept hset (fun k hk hm => by simp at hm; subst hm; exact (h.nb p hp).1 hk), fun k hk hm => ?_⟩
  · rw [Array.getElem?_setIfInBounds]
    by_cases e : i = p
    · subst e; rw [if_pos rfl, if_pos (by omega), upd_same]
    · rw [if_neg (by omega), upd_other _ _ e]; exact h5 i hi
  · by_cases e : i = p
    · subst e; rw [upd_same, upd_same]; exact Own.nil _ _ _ _
    · rw [upd_other _ _ e, upd_other _ _ e]
      exact (h.own i hi).kept hset (fun k hk1 hm => by simp at hm; subst hm; exact (h.nb i hi).1 hk1)
  · by_cases e : i = p
    · subst e; rw [upd_same]; exact ⟨fun x => hnil _ x, fun x => hnil _ x⟩
    · rw [upd_other _ _ e]; exact h.nb i hi
  · by_cases e : i = p
    · subst e; rw [upd_same] at hk1; exact (hnil _ hk1).elim
    · rw [upd_other _ _ e] at hk1
      by_cases e2 : j = p
      · subst e2; rw [upd_same]; exact fun x => hnil _ x
      · rw [upd_other _ _ e2]; exact h.ap i j hi hj hij k hk1
  · rcases hm with hm | hm | ⟨i, hi, hm⟩
    · exact .inl (.inl hm)
    · exact .inl (.inr (.inl hm))
    · by_cases e : i = p
      · subst e; rw [upd_same] at hm; exact (hnil _ hm).elim
      · rw [upd_other _ _ e] at hm; exact .inl (.inr (.inr ⟨i, hi, hm⟩))
  · rcases hm with hm | hm | ⟨i, hi, hm⟩
    · subst hm; exact (h.nb p hp).1 hk
    · subst hm; exact (h.nb p hp).2 hk
    · by_cases e : i = p
      · subst e; rw [upd_same] at hm; exact (hnil _ hm).elim
      · rw [upd_other _ _ e] at hm; exact h.ap p i hp hi (fun x => e x.symm) k hk hm
/-- A list is taken out, and what is armed still of it laid anew. -/
def relay (now : Nat) (d : Int → Nat) (p : Nat) (sl : Nat → List Tm) : Nat → List Tm := (sl p).foldl (lay now d) (upd sl p [])
/-- The lists behind 'turn'. -/
def turned (now : Nat) (d : Int → Nat) (sl : Nat → List Tm) : Nat → List Tm :=
  let s5 := if now % 1048576 = 0 then relay now d 80 sl else sl
  let s4 := if now % 65536 = 0 then relay now d (64 + now / 65536 % 16) s5 else s5
  let s3 := if now % 4096 = 0 then relay now d (48 + now / 4096 % 16) s4 else s4
  let s2 := if now % 256 = 0 then relay now d (32 + now / 256 % 16) s3 else s3
  if now % 16 = 0 then relay now d (16 + now / 16 % 16) s2 else s2
theorem fold_len (now : Nat) (d : Int → Nat) : ∀ (l : List Tm) (sl : Nat → List Tm) (i : Nat), (l.foldl (lay now d) sl i).length ≤ (sl i).length + l.length
  | [], sl, i => by simp
  | t :: l, sl, i => by
    have h1 := fold_len now d l (lay now d sl t) i
    have h2 := lay_len now d sl t i
    simp only [List.foldl_cons, List.length_cons]
    omega
theorem lay_mem {now : Nat} {d : Int → Nat} {sl : Nat → List Tm} {t x : Tm} {i : Nat} (h : x ∈ lay now d sl t i) : x ∈ sl i ∨ x = t := by
  unfold lay at h
  split at h
  · by_cases e : i = place now t.due
    · subst e; rw [upd_same] at h; simpa using h
    · rw [upd_other _ _ e] at h; exact .inl h
  · exact .inl h
theorem fold_mem {now : Nat} {d : Int → Nat} {x : Tm} {i : Nat} : ∀ {l : List Tm} {sl : Nat → List Tm}, x ∈ l.foldl (lay now d) sl i → x ∈ sl i ∨ x ∈ l
  | [], sl, h => .inl h
  | t :: l, sl, h => by
    rcases fold_mem (l := l) h with h | h
    · rcases lay_mem h with h | h
      · exact .inl h
      · exact .inr (by simp [h])
    · exact .inr (by simp [h])
theorem relay_len {now : Nat} {d : Int → Nat} {p : Nat} {sl : Nat → List Tm} {B : Nat} (hp : p < 81) (h : ∀ i, i < 81 → (sl i).length ≤ B) : ∀ i, i < 81 → (relay now d p sl i).length ≤ 2 * B := by
  intro i hi
  have h1 := fold_len now d (sl p) (upd sl p []) i
  have h2 := h p hp
  have h3 := h i hi
  unfold relay
  by_cases e : i = p
  · subst e; rw [upd_same] at h1; simp at h1; omega
  · rw [upd_other _ _ e] at h1; omega
theorem relay_mem {now : Nat} {d : Int → Nat} {p : Nat} {sl : Nat → List Tm} {Q : Tm → Prop} (hp : p < 81) (h : ∀ i, i < 81 → ∀ t ∈ sl i, Q t) : ∀ i, i < 81 → ∀ t ∈ relay now d p sl i, Q t := by
  intro i hi t ht
  rcases fold_mem ht with h1 | h1
  · by_cases e : i = p
    · subst e; rw [upd_same] at h1; simp at h1
    · rw [upd_other _ _ e] at h1; exact h i hi t h1
  · exact h p hp t h1
end Go.Proofs.Ytkemkoiknoefdaa
