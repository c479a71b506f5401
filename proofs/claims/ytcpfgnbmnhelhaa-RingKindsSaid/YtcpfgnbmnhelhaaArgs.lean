/- Arguments opened: a slice that came in, as the walks want it. -/
import Derived.Test.YtcpfgnbmnhelhaaCore
import Derived.ProofKit
import Derived.OpenShut
import Derived.Deep.Slices
namespace Go.Proofs.Ytcpfgnbmnhelhaa
open Go.ChangeShapes Go.WideShapes Go.ChangeAt Go.RowKit Go.Deep
set_option linter.unusedVariables false
set_option linter.unusedSimpArgs false

section
variable {H : Type} {enc : TypeId × Value → H} {P : Program} {W : World}
theorem cell_spot {w : World} {a : Addr} {v : Value} (h : w.cell? a = some v) : a.spot = none := by
  unfold World.cell? at h
  split at h
  · split at h
    · cases h
    · rename_i hs; simpa using hs
  · cases h

theorem arg_slice1 {t e : TypeId} {a : Option Addr} {l c : Nat} {d : DataW H} {ps : List MemPlace} (ht : P.underlying t = some (.slice e)) (hc : P.cellsOf e = 1)
    (h : DataW.Trod enc P W 0 (fun _ => true) true t (.slice a l c) d ps) (Q : Value → Prop) (hq : ∀ v y n, DataW.trod enc P W 0 (fun _ => true) true n e [v] = some y → Q v) :
    ∃ xs, Sl W (.slice a l c) xs ∧ ∀ x ∈ xs, Q x := by
  obtain ⟨fuel, hf⟩ := h
  rcases open_slice1 ht hc hf with ⟨hcs, _⟩ | ⟨x, l', c', m, n, V, D, Pl, hcs, _, hl, hm, hmm, _, hcell⟩
  · simp [Value.cells] at hcs
    obtain ⟨rfl, rfl, rfl⟩ := hcs
    exact ⟨[], Sl.nil W, by simp⟩
  · simp [Value.cells] at hcs
    obtain ⟨rfl, rfl, rfl⟩ := hcs
    simp only [if_true] at hmm
    subst hmm
    refine ⟨(List.range l).map V, ⟨some x, m, by simp, by simpa using hl, hm, by simp, fun hp => ?_⟩, fun y hy => ?_⟩
    · simp only [List.length_map, List.length_range] at hp
      have hs := cell_spot (hcell 0 (by omega)).1
      obtain ⟨g, off, spot⟩ := x
      have hs' : spot = none := by simpa [Addr.add] using hs
      subst hs'
      refine ⟨g, off, rfl, fun i hi => ?_⟩
      simp only [List.length_map, List.length_range] at hi
      have := (hcell i (by omega)).1
      rw [Addr.add_lit] at this
      rw [this]; simp
    · obtain ⟨i, hi, rfl⟩ := List.mem_map.1 hy
      simp only [List.mem_range] at hi
      exact hq _ _ _ (hcell i (by omega)).2

theorem arg_strings {t e : TypeId} {a : Option Addr} {l c : Nat} {d : DataW H} {ps : List MemPlace} (ht : P.underlying t = some (.slice e)) (he : P.underlying e = some .string) (hc : P.cellsOf e = 1)
    (h : DataW.Trod enc P W 0 (fun _ => true) true t (.slice a l c) d ps) : ∃ xs, Sl W (.slice a l c) xs ∧ ∀ x ∈ xs, ∃ s : ByteArray, x = .string s := by
  refine arg_slice1 ht hc h _ (fun v y n hv => ?_)
  obtain ⟨s, hs, _, hw⟩ := DataW.trod_string he hv
  exact ⟨s, by simpa using hs⟩
theorem arg_ints {t e : TypeId} {k : IntKind} {a : Option Addr} {l c : Nat} {d : DataW H} {ps : List MemPlace} (ht : P.underlying t = some (.slice e)) (he : P.underlying e = some (.int k)) (hc : P.cellsOf e = 1)
    (h : DataW.Trod enc P W 0 (fun _ => true) true t (.slice a l c) d ps) : ∃ xs, Sl W (.slice a l c) xs ∧ ∀ x ∈ xs, ∃ n : Int, x = .int k n ∧ (Lit.int k n).wf = true := by
  refine arg_slice1 ht hc h _ (fun v y n hv => ?_)
  obtain ⟨s, hs, _, hw⟩ := DataW.trod_int he hv
  exact ⟨s, by simpa using hs, hw⟩
end

theorem own : ownKnob Try.prog.godebug = none := by kernel_rfl
theorem laidOut : laidOutB Try.prog = true := by kernel_rfl
end Go.Proofs.Ytcpfgnbmnhelhaa
