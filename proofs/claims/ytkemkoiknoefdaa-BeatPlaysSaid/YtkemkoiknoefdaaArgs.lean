/- Arguments opened: a slice that came in, as the walks want it. -/
import Derived.Test.YtkemkoiknoefdaaCore
import Derived.ProofKit
import Derived.OpenShut
import Derived.Deep.Slices
import Derived.Deep.Strs
import Derived.SizedLaws
namespace Go.Proofs.Ytkemkoiknoefdaa
open Go.ChangeShapes Go.WideShapes Go.ChangeAt Go.RowKit Go.Deep
set_option linter.unusedVariables false
set_option linter.unusedSimpArgs false

section
variable {H : Type} {enc : TypeId × Value → H} {P : Program} {W : World}
theorem cell_spot {w : World} {a : Addr} {v : Value} (h : w.cell? a = some v) : a.spot = none := by
  unfold World.cell? at h
  split at h
  · split at h
    · cases h
    · rename_i hs; simpa using hs
  · cases h

theorem arg_slice1 {t e : TypeId} {a : Option Addr} {l c : Nat} {d : DataW H} {ps : List MemPlace} (ht : P.underlying t = some (.slice e)) (hc : P.cellsOf e = 1)
    (h : DataW.Trod enc P W 0 (fun _ => true) true t (.slice a l c) d ps) (Q : Value → Prop) (hq : ∀ v y n, DataW.trod enc P W 0 (fun _ => true) true n e [v] = some y → Q v) :
    ∃ xs, Sl W (.slice a l c) xs ∧ ∀ x ∈ xs, Q x := by
  obtain ⟨fuel, hf⟩ := h
  rcases open_slice1 ht hc hf with ⟨hcs, _⟩ | ⟨x, l', c', m, n, V, D, Pl, hcs, _, hl, hm, hmm, _, hcell⟩
  · simp [Value.cells] at hcs
    obtain ⟨rfl, rfl, rfl⟩ := hcs
    exact ⟨[], Sl.nil W, by simp⟩
  · simp [Value.cells] at hcs
    obtain ⟨rfl, rfl, rfl⟩ := hcs
    simp only [if_true] at hmm
    subst hmm
    refine ⟨(List.range l).map V, ⟨some x, m, by simp, by simpa using hl, hm, fun hp => ?_⟩, fun y hy => ?_⟩
    · simp only [List.length_map, List.length_range] at hp
      have hs := cell_spot (hcell 0 (by omega)).1
      obtain ⟨g, off, spot⟩ := x
      have hs' : spot = none := by simpa [Addr.add] using hs
      subst hs'
      refine ⟨g, off, rfl, fun i hi => ?_⟩
      simp only [List.length_map, List.length_range] at hi
      have := (hcell i (by omega)).1
      rw [Addr.add_lit] at this
      rw [this]; simp
    · obtain ⟨i, hi, rfl⟩ := List.mem_map.1 hy
      simp only [List.mem_range] at hi
      exact hq _ _ _ (hcell i (by omega)).2

/-- How much a slice that came in weighs. -/
theorem arg_room {ts : List TypeId} {ds : List (DataW H)} (hz : (DataW.weightsEach P ts ds).all (· ≤ reachBytes) = true) {j : Nat} {t e : TypeId} {a : Option Addr} {l c : Nat} {d : DataW H} {ps : List MemPlace} (ht : P.underlying t = some (.slice e)) (hc : P.cellsOf e = 1)
    (h : DataW.Trod enc P W 0 (fun _ => true) true t (.slice a l c) d ps) (h1 : ts[j]? = some t) (h2 : ds[j]? = some d) (b : Nat) (hb : P.bytesOf e = b) : c * b ≤ 140737488351232 := by
  obtain ⟨fuel, hf⟩ := h
  rcases open_slice1 ht hc hf with ⟨hcs, _⟩ | ⟨x, l', c', m, n, V, D, Pl, hcs, _, hl, hm, hmm, hx, hcell⟩
  · simp [Value.cells] at hcs
    obtain ⟨rfl, rfl, rfl⟩ := hcs
    simp
  · simp [Value.cells] at hcs
    obtain ⟨rfl, rfl, rfl⟩ := hcs
    simp only [if_true] at hmm
    subst hmm
    have hd := congrArg Prod.fst hx
    dsimp only at hd
    subst hd
    have := sized_slice hz h1 h2 ht
    rw [hb] at this
    simp only [List.length_map, List.length_range, reachBytes] at this
    rw [show l + (m - l) = m by omega] at this
    exact this

theorem arg_strings {t e : TypeId} {a : Option Addr} {l c : Nat} {d : DataW H} {ps : List MemPlace} (ht : P.underlying t = some (.slice e)) (he : P.underlying e = some .string) (hc : P.cellsOf e = 1)
    (h : DataW.Trod enc P W 0 (fun _ => true) true t (.slice a l c) d ps) : ∃ xs, Sl W (.slice a l c) xs ∧ ∀ x ∈ xs, ∃ s : ByteArray, x = .string s := by
  refine arg_slice1 ht hc h _ (fun v y n hv => ?_)
  obtain ⟨s, hs, _, hw⟩ := DataW.trod_string he hv
  exact ⟨s, by simpa using hs⟩
theorem arg_ints {t e : TypeId} {k : IntKind} {a : Option Addr} {l c : Nat} {d : DataW H} {ps : List MemPlace} (ht : P.underlying t = some (.slice e)) (he : P.underlying e = some (.int k)) (hc : P.cellsOf e = 1)
    (h : DataW.Trod enc P W 0 (fun _ => true) true t (.slice a l c) d ps) : ∃ xs, Sl W (.slice a l c) xs ∧ ∀ x ∈ xs, ∃ n : Int, x = .int k n ∧ (Lit.int k n).wf = true := by
  refine arg_slice1 ht hc h _ (fun v y n hv => ?_)
  obtain ⟨s, hs, _, hw⟩ := DataW.trod_int he hv
  exact ⟨s, by simpa using hs, hw⟩
end

/-- The slice value v reads as a list of triples, three cells each. -/
def Sl3 (w : World) (v : Value) (l : List (Value × Value × Value)) : Prop :=
  ∃ a cap, v = .slice a l.length cap ∧ l.length ≤ cap ∧ cap ≤ maxLen ∧ ∀ i (h : i < l.length), ∃ g off, a = some ⟨g, off, none⟩ ∧
    w.cell? ⟨g, off + i * 3, none⟩ = some l[i].1 ∧ w.cell? ⟨g, off + i * 3 + 1, none⟩ = some l[i].2.1 ∧ w.cell? ⟨g, off + i * 3 + 2, none⟩ = some l[i].2.2
theorem Sl3.len {w : World} {a : Option Addr} {n cap : Nat} {l : List (Value × Value × Value)} (h : Sl3 w (.slice a n cap) l) : n = l.length ∧ l.length ≤ cap ∧ cap ≤ maxLen := by
  obtain ⟨a', cap', h, h1, h2, h3⟩ := h
  cases h
  exact ⟨rfl, h1, h2⟩
theorem Sl3.old {S : List Nat} {w0 w : World} {v : Value} {l : List (Value × Value × Value)} (h : Sl3 w0 v l) (hk : Kept S w0 w) (hS : ∀ k ∈ S, w0.heap.size ≤ k) : Sl3 w v l := by
  obtain ⟨a, cap, rfl, h1, h2, h3⟩ := h
  refine ⟨a, cap, rfl, h1, h2, fun i hi => ?_⟩
  obtain ⟨g, off, rfl, c1, c2, c3⟩ := h3 i hi
  have hg := World.block_lt_of_cell? w0 _ c1
  have hb := hk.block g hg (fun hm => by have := hS g hm; simp at hg; omega)
  exact ⟨g, off, rfl, by rw [← c1]; exact World.cell?_of_block (w := w0) hb, by rw [← c2]; exact World.cell?_of_block (w := w0) hb, by rw [← c3]; exact World.cell?_of_block (w := w0) hb⟩
theorem Sl3.cell {w : World} {a : Option Addr} {n cap : Nat} {l : List (Value × Value × Value)} (h : Sl3 w (.slice a n cap) l) {i : Nat} (hi : i < l.length) : ∃ g off, a = some ⟨g, off, none⟩ ∧
    w.cell? ⟨g, off + i * 3, none⟩ = some l[i].1 ∧ w.cell? ⟨g, off + i * 3 + 1, none⟩ = some l[i].2.1 ∧ w.cell? ⟨g, off + i * 3 + 2, none⟩ = some l[i].2.2 := by
  obtain ⟨a', cap', h, h1, h2, h3⟩ := h
  cases h
  exact h3 i hi

section
variable {H : Type} {enc : TypeId × Value → H} {P : Program} {W : World}
theorem arg_slice3 {t e : TypeId} {f0 f1 f2 : Field} {a : Option Addr} {l c : Nat} {d : DataW H} {ps : List MemPlace} (ht : P.underlying t = some (.slice e)) (he : P.underlying e = some (.struct #[f0, f1, f2])) (hc : P.cellsOf e = 3)
    (k0 : P.cellsOf f0.type = 1) (k1 : P.cellsOf f1.type = 1) (k2 : P.cellsOf f2.type = 1) (o0 : f0.offset = 0) (o1 : f1.offset = 1) (o2 : f2.offset = 2)
    (h : DataW.Trod enc P W 0 (fun _ => true) true t (.slice a l c) d ps) (Q0 Q1 Q2 : Value → Prop)
    (q0 : ∀ v y n, DataW.trod enc P W 0 (fun _ => true) true n f0.type [v] = some y → Q0 v) (q1 : ∀ v y n, DataW.trod enc P W 0 (fun _ => true) true n f1.type [v] = some y → Q1 v) (q2 : ∀ v y n, DataW.trod enc P W 0 (fun _ => true) true n f2.type [v] = some y → Q2 v) :
    ∃ xs, Sl3 W (.slice a l c) xs ∧ ∀ x ∈ xs, Q0 x.1 ∧ Q1 x.2.1 ∧ Q2 x.2.2 := by
  obtain ⟨fuel, hf⟩ := h
  rcases open_slice ht hf with ⟨hcs, _⟩ | ⟨x, l', c', m, n, D, Pl, hcs, _, hl, hm, hmm, _, hcell⟩
  · simp [Value.cells] at hcs
    obtain ⟨rfl, rfl, rfl⟩ := hcs
    exact ⟨[], ⟨none, 0, by simp, by simp, by simp, fun i hi => by simp at hi⟩, by simp⟩
  · simp [Value.cells] at hcs
    obtain ⟨rfl, rfl, rfl⟩ := hcs
    simp only [if_true] at hmm
    subst hmm
    obtain ⟨V, hV⟩ := choose_lt (α := Value × Value × Value) (n := m) (p := fun i v => W.cell? (x.add (i * 3)) = some v.1 ∧ W.cell? ((x.add (i * 3)).add 1) = some v.2.1 ∧ W.cell? ((x.add (i * 3)).add 2) = some v.2.2 ∧ Q0 v.1 ∧ Q1 v.2.1 ∧ Q2 v.2.2) (fun i hi => by
      obtain ⟨cs', h1, h2⟩ := hcell i hi
      rw [hc] at h1
      obtain ⟨_, hlen, hci⟩ := World.cells?_some h1
      obtain ⟨y0, y1, y2, n', _, _, t0, t1, t2⟩ := trod_struct3 he h2
      match cs', hlen with
      | [v0, v1, v2], _ =>
        rw [k0, o0] at t0
        rw [k1, o1] at t1
        rw [k2, o2] at t2
        exact ⟨(v0, v1, v2), by simpa [Addr.add] using hci 0 (by omega), by simpa using hci 1 (by omega), by simpa using hci 2 (by omega), q0 _ _ _ t0, q1 _ _ _ t1, q2 _ _ _ t2⟩)
    refine ⟨(List.range l).map V, ⟨some x, m, by simp, by simpa using hl, hm, fun i hi => ?_⟩, fun y hy => ?_⟩
    · simp only [List.length_map, List.length_range] at hi
      have hs := cell_spot (hV 0 (by omega)).1
      obtain ⟨g, off, spot⟩ := x
      have hs' : spot = none := by simpa [Addr.add] using hs
      subst hs'
      obtain ⟨a1, a2, a3, _⟩ := hV i (by omega)
      rw [Addr.add_lit] at a1 a2 a3
      rw [Addr.add_lit] at a2 a3
      refine ⟨g, off, rfl, ?_, ?_, ?_⟩
      · rw [a1]; simp
      · rw [a2]; simp
      · rw [a3]; simp
    · obtain ⟨i, hi, rfl⟩ := List.mem_map.1 hy
      simp only [List.mem_range] at hi
      exact (hV i (by omega)).2.2.2

def IsInt (k : IntKind) (v : Value) : Prop := ∃ n : Int, v = .int k n ∧ (Lit.int k n).wf = true
def IsStr (v : Value) : Prop := ∃ s : ByteArray, v = .string s
theorem is_int {e : TypeId} {k : IntKind} (he : P.underlying e = some (.int k)) : ∀ (v : Value) (y) (n : Nat), DataW.trod enc P W 0 (fun _ => true) true n e [v] = some y → IsInt k v := fun v y n hv => by
  obtain ⟨s, hs, _, hw⟩ := DataW.trod_int he hv
  exact ⟨s, by simpa using hs, hw⟩
theorem is_str {e : TypeId} (he : P.underlying e = some .string) : ∀ (v : Value) (y) (n : Nat), DataW.trod enc P W 0 (fun _ => true) true n e [v] = some y → IsStr v := fun v y n hv => by
  obtain ⟨s, hs, _, hw⟩ := DataW.trod_string he hv
  exact ⟨s, by simpa using hs⟩
end

theorem own : ownKnob Try.prog.godebug = none := by kernel_rfl
theorem laidOut : laidOutB Try.prog = true := by kernel_rfl
end Go.Proofs.Ytkemkoiknoefdaa
