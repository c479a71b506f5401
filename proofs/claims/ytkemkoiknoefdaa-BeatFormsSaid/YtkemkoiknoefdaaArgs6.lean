/- An argument opened: a struct of six one-cell fields by value. -/
import Derived.Test.YtkemkoiknoefdaaArgs
import Derived.Lib.SmallJoins
namespace Go.Proofs.Ytkemkoiknoefdaa
open Go.ChangeShapes Go.WideShapes Go.ChangeAt Go.RowKit Go.Deep Go.Joins
set_option linter.unusedVariables false
set_option linter.unusedSimpArgs false

section
variable {H : Type} {enc : TypeId × Value → H} {P : Program} {W : World}
theorem array6 {α : Type} {cs : Array α} (h : cs.size = 6) : ∃ c0 c1 c2 c3 c4 c5, cs = #[c0, c1, c2, c3, c4, c5] := by
  obtain ⟨l⟩ := cs
  match l, h with
  | [c0, c1, c2, c3, c4, c5], _ => exact ⟨c0, c1, c2, c3, c4, c5, rfl⟩
theorem trod_struct6 {w : World} {base : Nat} {spare : Nat → Bool} {held : Bool} {t : TypeId} {f0 f1 f2 f3 f4 f5 : Field} {fuel : Nat} {cs : List Value} {x : DataW H × List MemPlace} (ht : P.underlying t = some (.struct #[f0, f1, f2, f3, f4, f5])) (h : DataW.trod enc P w base spare held fuel t cs = some x) :
    ∃ y0 y1 y2 y3 y4 y5 n, cs.length = P.cellsOf t ∧ DataW.trod enc P w base spare held n f0.type ((cs.drop f0.offset).take (P.cellsOf f0.type)) = some y0 ∧
      DataW.trod enc P w base spare held n f1.type ((cs.drop f1.offset).take (P.cellsOf f1.type)) = some y1 ∧ DataW.trod enc P w base spare held n f2.type ((cs.drop f2.offset).take (P.cellsOf f2.type)) = some y2 ∧
      DataW.trod enc P w base spare held n f3.type ((cs.drop f3.offset).take (P.cellsOf f3.type)) = some y3 ∧ DataW.trod enc P w base spare held n f4.type ((cs.drop f4.offset).take (P.cellsOf f4.type)) = some y4 ∧
      DataW.trod enc P w base spare held n f5.type ((cs.drop f5.offset).take (P.cellsOf f5.type)) = some y5 := by
  obtain ⟨xs, n, _, rfl, hl, hlen, hf⟩ := DataW.trod_struct ht h
  match xs, hlen with
  | [y0, y1, y2, y3, y4, y5], _ => exact ⟨y0, y1, y2, y3, y4, y5, n, hl, by simpa using hf 0 f0 rfl, by simpa using hf 1 f1 rfl, by simpa using hf 2 f2 rfl, by simpa using hf 3 f3 rfl, by simpa using hf 4 f4 rfl, by simpa using hf 5 f5 rfl⟩
theorem arg_agg6 {r : Reach} {base : Nat} {t : TypeId} {f0 f1 f2 f3 f4 f5 : Field} {v : Value} {d : DataW H} {ps : List MemPlace} (ht : P.underlying t = some (.struct #[f0, f1, f2, f3, f4, f5])) (hc : P.cellsOf t = 6)
    (k0 : P.cellsOf f0.type = 1) (k1 : P.cellsOf f1.type = 1) (k2 : P.cellsOf f2.type = 1) (k3 : P.cellsOf f3.type = 1) (k4 : P.cellsOf f4.type = 1) (k5 : P.cellsOf f5.type = 1)
    (o0 : f0.offset = 0) (o1 : f1.offset = 1) (o2 : f2.offset = 2) (o3 : f3.offset = 3) (o4 : f4.offset = 4) (o5 : f5.offset = 5)
    (hv : Value.okWide P W r base t v) (h : DataW.Trod enc P W 0 (fun _ => true) true t v d ps) (Q : Value → Prop)
    (q0 : ∀ v y n, DataW.trod enc P W 0 (fun _ => true) true n f0.type [v] = some y → Q v) (q1 : ∀ v y n, DataW.trod enc P W 0 (fun _ => true) true n f1.type [v] = some y → Q v)
    (q2 : ∀ v y n, DataW.trod enc P W 0 (fun _ => true) true n f2.type [v] = some y → Q v) (q3 : ∀ v y n, DataW.trod enc P W 0 (fun _ => true) true n f3.type [v] = some y → Q v)
    (q4 : ∀ v y n, DataW.trod enc P W 0 (fun _ => true) true n f4.type [v] = some y → Q v) (q5 : ∀ v y n, DataW.trod enc P W 0 (fun _ => true) true n f5.type [v] = some y → Q v) :
    ∃ v0 v1 v2 v3 v4 v5, v = .agg #[v0, v1, v2, v3, v4, v5] ∧ Q v0 ∧ Q v1 ∧ Q v2 ∧ Q v3 ∧ Q v4 ∧ Q v5 := by
  obtain ⟨cs, rfl, hs⟩ := okWide_struct ht hv
  rw [hc] at hs
  obtain ⟨c0, c1, c2, c3, c4, c5, rfl⟩ := array6 hs
  obtain ⟨fuel, hf⟩ := h
  obtain ⟨y0, y1, y2, y3, y4, y5, n, _, h0, h1, h2, h3, h4, h5⟩ := trod_struct6 ht hf
  rw [k0, o0] at h0
  rw [k1, o1] at h1
  rw [k2, o2] at h2
  rw [k3, o3] at h3
  rw [k4, o4] at h4
  rw [k5, o5] at h5
  exact ⟨c0, c1, c2, c3, c4, c5, rfl, q0 _ _ _ (by simpa [Value.cells] using h0), q1 _ _ _ (by simpa [Value.cells] using h1), q2 _ _ _ (by simpa [Value.cells] using h2), q3 _ _ _ (by simpa [Value.cells] using h3), q4 _ _ _ (by simpa [Value.cells] using h4), q5 _ _ _ (by simpa [Value.cells] using h5)⟩
end
end Go.Proofs.Ytkemkoiknoefdaa
