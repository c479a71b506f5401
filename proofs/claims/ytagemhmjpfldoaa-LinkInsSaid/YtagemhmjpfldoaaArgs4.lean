/- Arguments opened: a slice of structs whose fourth field is a slice of one-cell things. -/
import Derived.Test.YtagemhmjpfldoaaArgs
import Derived.Lib.SmallJoins
namespace Go.Proofs.Ytagemhmjpfldoaa
open Go.ChangeShapes Go.WideShapes Go.ChangeAt Go.RowKit Go.Deep Go.Joins
set_option linter.unusedVariables false
set_option linter.unusedSimpArgs false

/-- A row of four one-cell things. -/
abbrev Four := Value × Value × Value × Value
/-- The slice value v reads as a list of fours, four cells each. -/
def Sl4 (w : World) (v : Value) (l : List Four) : Prop :=
  ∃ a cap, v = .slice a l.length cap ∧ l.length ≤ cap ∧ cap ≤ maxLen ∧ ∀ i (h : i < l.length), ∃ g off, a = some ⟨g, off, none⟩ ∧
    w.cell? ⟨g, off + i * 4, none⟩ = some l[i].1 ∧ w.cell? ⟨g, off + i * 4 + 1, none⟩ = some l[i].2.1 ∧ w.cell? ⟨g, off + i * 4 + 2, none⟩ = some l[i].2.2.1 ∧ w.cell? ⟨g, off + i * 4 + 3, none⟩ = some l[i].2.2.2
theorem Sl4.len {w : World} {a : Option Addr} {n cap : Nat} {l : List Four} (h : Sl4 w (.slice a n cap) l) : n = l.length ∧ l.length ≤ cap ∧ cap ≤ maxLen := by
  obtain ⟨a', cap', h, h1, h2, h3⟩ := h
  cases h
  exact ⟨rfl, h1, h2⟩
theorem Sl4.old {S : List Nat} {w0 w : World} {v : Value} {l : List Four} (h : Sl4 w0 v l) (hk : Kept S w0 w) (hS : ∀ k ∈ S, w0.heap.size ≤ k) : Sl4 w v l := by
  obtain ⟨a, cap, rfl, h1, h2, h3⟩ := h
  refine ⟨a, cap, rfl, h1, h2, fun i hi => ?_⟩
  obtain ⟨g, off, rfl, c1, c2, c3, c4⟩ := h3 i hi
  have hg := World.block_lt_of_cell? w0 _ c1
  have hb := hk.block g hg (fun hm => by have := hS g hm; simp at hg; omega)
  exact ⟨g, off, rfl, by rw [← c1]; exact World.cell?_of_block (w := w0) hb, by rw [← c2]; exact World.cell?_of_block (w := w0) hb, by rw [← c3]; exact World.cell?_of_block (w := w0) hb, by rw [← c4]; exact World.cell?_of_block (w := w0) hb⟩
theorem Sl4.cell {w : World} {a : Option Addr} {n cap : Nat} {l : List Four} (h : Sl4 w (.slice a n cap) l) {i : Nat} (hi : i < l.length) : ∃ g off, a = some ⟨g, off, none⟩ ∧
    w.cell? ⟨g, off + i * 4, none⟩ = some l[i].1 ∧ w.cell? ⟨g, off + i * 4 + 1, none⟩ = some l[i].2.1 ∧ w.cell? ⟨g, off + i * 4 + 2, none⟩ = some l[i].2.2.1 ∧ w.cell? ⟨g, off + i * 4 + 3, none⟩ = some l[i].2.2.2 := by
  obtain ⟨a', cap', h, h1, h2, h3⟩ := h
  cases h
  exact h3 i hi

section
variable {H : Type} {enc : TypeId × Value → H} {P : Program} {W : World}
theorem arg_slice4 {t e : TypeId} {f0 f1 f2 f3 : Field} {a : Option Addr} {l c : Nat} {d : DataW H} {ps : List MemPlace} (ht : P.underlying t = some (.slice e)) (he : P.underlying e = some (.struct #[f0, f1, f2, f3])) (hc : P.cellsOf e = 4)
    (k0 : P.cellsOf f0.type = 1) (k1 : P.cellsOf f1.type = 1) (k2 : P.cellsOf f2.type = 1) (k3 : P.cellsOf f3.type = 1) (o0 : f0.offset = 0) (o1 : f1.offset = 1) (o2 : f2.offset = 2) (o3 : f3.offset = 3)
    (h : DataW.Trod enc P W 0 (fun _ => true) true t (.slice a l c) d ps) (Q0 Q1 Q2 Q3 : Value → Prop)
    (q0 : ∀ v y n, DataW.trod enc P W 0 (fun _ => true) true n f0.type [v] = some y → Q0 v) (q1 : ∀ v y n, DataW.trod enc P W 0 (fun _ => true) true n f1.type [v] = some y → Q1 v)
    (q2 : ∀ v y n, DataW.trod enc P W 0 (fun _ => true) true n f2.type [v] = some y → Q2 v) (q3 : ∀ v y n, DataW.trod enc P W 0 (fun _ => true) true n f3.type [v] = some y → Q3 v) :
    ∃ xs, Sl4 W (.slice a l c) xs ∧ ∀ x ∈ xs, Q0 x.1 ∧ Q1 x.2.1 ∧ Q2 x.2.2.1 ∧ Q3 x.2.2.2 := by
  obtain ⟨fuel, hf⟩ := h
  rcases open_slice ht hf with ⟨hcs, _⟩ | ⟨x, l', c', m, n, D, Pl, hcs, _, hl, hm, hmm, _, hcell⟩
  · simp [Value.cells] at hcs
    obtain ⟨rfl, rfl, rfl⟩ := hcs
    exact ⟨[], ⟨none, 0, by simp, by simp, by simp, fun i hi => by simp at hi⟩, by simp⟩
  · simp [Value.cells] at hcs
    obtain ⟨rfl, rfl, rfl⟩ := hcs
    simp only [if_true] at hmm
    subst hmm
    obtain ⟨V, hV⟩ := choose_lt (α := Four) (n := m) (p := fun i v => W.cell? (x.add (i * 4)) = some v.1 ∧ W.cell? ((x.add (i * 4)).add 1) = some v.2.1 ∧ W.cell? ((x.add (i * 4)).add 2) = some v.2.2.1 ∧ W.cell? ((x.add (i * 4)).add 3) = some v.2.2.2 ∧ Q0 v.1 ∧ Q1 v.2.1 ∧ Q2 v.2.2.1 ∧ Q3 v.2.2.2) (fun i hi => by
      obtain ⟨cs', h1, h2⟩ := hcell i hi
      rw [hc] at h1
      obtain ⟨_, hlen, hci⟩ := World.cells?_some h1
      obtain ⟨y0, y1, y2, y3, n', _, _, t0, t1, t2, t3⟩ := trod_struct4 he h2
      match cs', hlen with
      | [v0, v1, v2, v3], _ =>
        rw [k0, o0] at t0
        rw [k1, o1] at t1
        rw [k2, o2] at t2
        rw [k3, o3] at t3
        exact ⟨(v0, v1, v2, v3), by simpa [Addr.add] using hci 0 (by omega), by simpa using hci 1 (by omega), by simpa using hci 2 (by omega), by simpa using hci 3 (by omega), q0 _ _ _ t0, q1 _ _ _ t1, q2 _ _ _ t2, q3 _ _ _ t3⟩)
    refine ⟨(List.range l).map V, ⟨some x, m, by simp, by simpa using hl, hm, fun i hi => ?_⟩, fun y hy => ?_⟩
    · simp only [List.length_map, List.length_range] at hi
      have hs := cell_spot (hV 0 (by omega)).1
      obtain ⟨g, off, spot⟩ := x
      have hs' : spot = none := by simpa [Addr.add] using hs
      subst hs'
      obtain ⟨a1, a2, a3, a4, _⟩ := hV i (by omega)
      rw [Addr.add_lit] at a1 a2 a3 a4
      rw [Addr.add_lit] at a2 a3 a4
      refine ⟨g, off, rfl, ?_, ?_, ?_, ?_⟩
      · rw [a1]; simp
      · rw [a2]; simp
      · rw [a3]; simp
      · rw [a4]; simp
    · obtain ⟨i, hi, rfl⟩ := List.mem_map.1 hy
      simp only [List.mem_range] at hi
      exact (hV i (by omega)).2.2.2.2
/-- The value is a slice of strings, in the world W. -/
def IsStrs (W : World) (v : Value) : Prop := ∃ a n c xs, v = .slice a n c ∧ Sl W (.slice a n c) xs ∧ ∀ x ∈ xs, ∃ s : ByteArray, x = .string s
theorem is_strs {t e : TypeId} (ht : P.underlying t = some (.slice e)) (he : P.underlying e = some .string) (hc : P.cellsOf e = 1) : ∀ (v : Value) (y) (n : Nat), DataW.trod enc P W 0 (fun _ => true) true n t [v] = some y → IsStrs W v := fun v y n hv => by
  obtain ⟨a, l, c, hs⟩ := slice_form ht hv
  simp at hs
  subst hs
  obtain ⟨xs, h1, h2⟩ := arg_strings (a := a) (l := l) (c := c) (d := y.1) (ps := y.2) ht he hc ⟨n, by simpa [Value.cells] using hv⟩
  exact ⟨a, l, c, xs, rfl, h1, h2⟩
end
end Go.Proofs.Ytagemhmjpfldoaa
