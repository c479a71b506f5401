/- The law's own helper 'act': words that its arms share. -/
import Derived.Test.YtagemhmjpfldoaaLinkPut
namespace Go.Proofs.Ytagemhmjpfldoaa
open Go.RowKit
set_option linter.unusedVariables false
set_option linter.unusedSimpArgs false

def ActPost (w0 : World) (wb : Nat) (A B : Ends) (m win : Nat) (s : St) (e : Ending) (w' : World) : Prop :=
  (∃ v, e = .returned v) ∧ ∃ T V lA lB, Wo w0 T w' wb A B m win V lA lB s
theorem Wo.nwA {w0 : World} {T : Nat → Nat} {w : World} {wb : Nat} {A B : Ends} {m win : Nat} {V : Six} {lA lB : List (Pk × Value)} {s : St} (h : Wo w0 T w wb A B m win V lA lB s) : ∀ k ∈ A.all, k < w.heap.size := h.a.lt
theorem Ends.so_all {E : Ends} : ∀ k ∈ E.so, k ∈ E.all := by intro k hk; simp [Ends.so] at hk; simp [Ends.all]; omega
theorem Ends.ro_all {E : Ends} : ∀ k ∈ E.ro, k ∈ E.all := by intro k hk; simp [Ends.ro] at hk; simp [Ends.all]; omega
theorem kept_new {w : World} (o : Obj) : Kept [] w (w.alloc o) := (Kept.refl _ _).alloc o
theorem kept_new1 {w : World} (o : Obj) : Kept [] w (w.drew.alloc o) := ⟨rfl, rfl, rfl, by simp, fun k hk _ => Below.heap_alloc _ _ _ hk⟩

theorem Own.list {base : Nat} {E : TypeId} {w : World} {v : Value} {n : Nat} {xs : List Value} (h : Own base E 1 w v n xs) : OwnL base E w v xs := by
  have := h.1
  unfold OwnL
  rw [this, Nat.mul_one]; exact h

theorem cells_new (w : World) (c : Array Value) (t : TypeId) (l : List Value) (hl : c.toList = l) : ∀ (j : Nat) (u : Value), l[j]? = some u → (w.alloc (.cells c t)).cell? ((⟨w.heap.size, 0, none⟩ : Addr).add j) = some u := by
  intro j u h
  subst hl
  rw [Addr.add_lit, Nat.zero_add, cell_of (blk_alloc_new w _)]
  simpa using h
theorem Wo.frozen {w0 : World} {T : Nat → Nat} {w : World} {wb : Nat} {A B : Ends} {m win : Nat} {V : Six} {lA lB : List (Pk × Value)} {s : St} (h : Wo w0 T w wb A B m win V lA lB s) (i : Nat) : w.frozen? ⟨wb, 0 + i, none⟩ = false := frozen_of h.blk
/-- v[1:], five cells each. -/
theorem own_tail5 {base : Nat} {E : TypeId} {w : World} {g off n cap : Nat} {q : Pk × Value} {l : List (Pk × Value)} (h : Own base E 5 w (.slice (some ⟨g, off, none⟩) n cap) (l.length + 1) (rows (q :: l))) :
    (¬ cap = 1 → Own base E 5 w (.slice (some ⟨g, off + 5, none⟩) l.length (cap - 1)) l.length (rows l)) ∧ (cap = 1 → Own base E 5 w (.slice (some ⟨g, off, none⟩) l.length (cap - 1)) l.length (rows l)) := by
  obtain ⟨hl, ⟨h, h0⟩ | ⟨g', off', cap', c, h, hb, hg, hn, hs, hm, hc⟩⟩ := h
  · cases h
  · cases h
    refine ⟨fun hne => ⟨rows_length l, .inr ⟨g, off + 5, cap - 1, c, rfl, hb, hg, by omega, by omega, by omega, fun i hi => ?_⟩⟩, fun he => ⟨rows_length l, .inr ⟨g, off, cap - 1, c, rfl, hb, hg, by omega, by omega, by omega, fun i hi => ?_⟩⟩⟩
    · have := hc (5 + i) (by simp [rows, rowOf]; omega)
      rw [show off + 5 + i = off + (5 + i) by omega, this]
      simp only [rows]
      rw [List.getElem_append_right (by simp [rowOf])]
      simp [rowOf]
    · rw [rows_length] at hi; omega
theorem Wo.lost {w0 : World} {T : Nat → Nat} {w : World} {wb : Nat} {A B : Ends} {m win : Nat} {V : Six} {q : Pk × Value} {lA l : List (Pk × Value)} {s : St} (h : Wo w0 T w wb A B m win V lA (q :: l) s) (v' : Value) (hO : Own 0 45 5 w v' l.length (rows l)) (hT : Tag T 9 v') :
    Wo w0 (up T w.heap.size 0) (w.setCell ⟨wb, 0 + 7, none⟩ v') wb A B m win { V with tB := v' } lA l s.lose := by
  have hset : Kept [wb] w (w.setCell ⟨wb, 0 + 7, none⟩ v') := (Kept.refl _ _).setCell (by simp) _
  refine h.carry hset (fun z => z == 9 || z == 3) rfl ?_ 0 { V with tB := v' } lA l s.lose (by rw [show ((3 : Nat) == 9 || (3 : Nat) == 3) = true from rfl, cond_true]; exact (blk_set h.blk v').trans rfl) ⟨rfl, rfl, rfl, rfl⟩ ⟨rfl, rfl, rfl, rfl⟩ ⟨rfl, rfl⟩ ⟨rfl, rfl⟩ ⟨rfl, rfl⟩ ⟨rfl, rfl⟩ ⟨rfl, rfl, rfl⟩ ⟨?_, ?_, ?_, fun q' hq' => .inl (by simp [hq'])⟩ rfl
  · intro k hk
    simp at hk
    subst hk
    rw [h.t3]; rfl
  · exact hO.kept hset (fun k hk hm => by
      simp at hm
      subst hm
      have := hT _ hk
      rw [h.t3] at this
      omega)
  · exact hT.up (fun k hk => (hO.lt k hk).2)
  · simp [St.lose, h.fB]
end Go.Proofs.Ytagemhmjpfldoaa
