/- Arguments opened: a pair of integers by value; a packet by value. -/
import Derived.Test.YtagemhmjpfldoaaArgs4
namespace Go.Proofs.Ytagemhmjpfldoaa
open Go.ChangeShapes Go.WideShapes Go.ChangeAt Go.RowKit Go.Deep Go.Joins
set_option linter.unusedVariables false
set_option linter.unusedSimpArgs false

section
variable {H : Type} {enc : TypeId × Value → H} {P : Program} {W : World}
theorem arg_agg2 {r : Reach} {base : Nat} {t : TypeId} {f0 f1 : Field} {v : Value} {d : DataW H} {ps : List MemPlace} (ht : P.underlying t = some (.struct #[f0, f1])) (hc : P.cellsOf t = 2)
    (k0 : P.cellsOf f0.type = 1) (k1 : P.cellsOf f1.type = 1) (o0 : f0.offset = 0) (o1 : f1.offset = 1)
    (hv : Value.okWide P W r base t v) (h : DataW.Trod enc P W 0 (fun _ => true) true t v d ps) (Q0 Q1 : Value → Prop)
    (q0 : ∀ v y n, DataW.trod enc P W 0 (fun _ => true) true n f0.type [v] = some y → Q0 v) (q1 : ∀ v y n, DataW.trod enc P W 0 (fun _ => true) true n f1.type [v] = some y → Q1 v) :
    ∃ v0 v1, v = .agg #[v0, v1] ∧ Q0 v0 ∧ Q1 v1 := by
  obtain ⟨cs, rfl, hs⟩ := okWide_struct ht hv
  rw [hc] at hs
  obtain ⟨c0, c1, rfl⟩ := array2 hs
  obtain ⟨fuel, hf⟩ := h
  obtain ⟨y0, y1, n, _, _, h0, h1⟩ := trod_struct2 ht hf
  rw [k0, o0] at h0
  rw [k1, o1] at h1
  exact ⟨c0, c1, rfl, q0 _ _ _ (by simpa [Value.cells] using h0), q1 _ _ _ (by simpa [Value.cells] using h1)⟩
theorem array5 {α : Type} {cs : Array α} (h : cs.size = 5) : ∃ c0 c1 c2 c3 c4, cs = #[c0, c1, c2, c3, c4] := by
  obtain ⟨l⟩ := cs
  match l, h with
  | [c0, c1, c2, c3, c4], _ => exact ⟨c0, c1, c2, c3, c4, rfl⟩
/-- A struct of a pair, and three one-cell things. -/
theorem arg_packet {r : Reach} {base : Nat} {t : TypeId} {f0 f1 f2 f3 g0 g1 : Field} {v : Value} {d : DataW H} {ps : List MemPlace} (ht : P.underlying t = some (.struct #[f0, f1, f2, f3])) (hc : P.cellsOf t = 5)
    (he : P.underlying f0.type = some (.struct #[g0, g1])) (k0 : P.cellsOf f0.type = 2) (k1 : P.cellsOf f1.type = 1) (k2 : P.cellsOf f2.type = 1) (k3 : P.cellsOf f3.type = 1) (o0 : f0.offset = 0) (o1 : f1.offset = 2) (o2 : f2.offset = 3) (o3 : f3.offset = 4)
    (l0 : P.cellsOf g0.type = 1) (l1 : P.cellsOf g1.type = 1) (u0 : g0.offset = 0) (u1 : g1.offset = 1)
    (hv : Value.okWide P W r base t v) (h : DataW.Trod enc P W 0 (fun _ => true) true t v d ps) (Q0 Q1 Q2 Q3 Q4 : Value → Prop)
    (q0 : ∀ v y n, DataW.trod enc P W 0 (fun _ => true) true n g0.type [v] = some y → Q0 v) (q1 : ∀ v y n, DataW.trod enc P W 0 (fun _ => true) true n g1.type [v] = some y → Q1 v)
    (q2 : ∀ v y n, DataW.trod enc P W 0 (fun _ => true) true n f1.type [v] = some y → Q2 v) (q3 : ∀ v y n, DataW.trod enc P W 0 (fun _ => true) true n f2.type [v] = some y → Q3 v) (q4 : ∀ v y n, DataW.trod enc P W 0 (fun _ => true) true n f3.type [v] = some y → Q4 v) :
    ∃ v0 v1 v2 v3 v4, v = .agg #[v0, v1, v2, v3, v4] ∧ Q0 v0 ∧ Q1 v1 ∧ Q2 v2 ∧ Q3 v3 ∧ Q4 v4 := by
  obtain ⟨cs, rfl, hs⟩ := okWide_struct ht hv
  rw [hc] at hs
  obtain ⟨c0, c1, c2, c3, c4, rfl⟩ := array5 hs
  obtain ⟨fuel, hf⟩ := h
  obtain ⟨y0, y1, y2, y3, n, _, _, h0, h1, h2, h3⟩ := trod_struct4 ht hf
  rw [k0, o0] at h0
  rw [k1, o1] at h1
  rw [k2, o2] at h2
  rw [k3, o3] at h3
  obtain ⟨z0, z1, n', _, _, t0, t1⟩ := trod_struct2 he h0
  rw [l0, u0] at t0
  rw [l1, u1] at t1
  exact ⟨c0, c1, c2, c3, c4, rfl, q0 _ _ _ (by simpa [Value.cells] using t0), q1 _ _ _ (by simpa [Value.cells] using t1), q2 _ _ _ (by simpa [Value.cells] using h1), q3 _ _ _ (by simpa [Value.cells] using h2), q4 _ _ _ (by simpa [Value.cells] using h3)⟩
end
end Go.Proofs.Ytagemhmjpfldoaa
