/- A ring in memory: what it holds, and what a store makes of it. -/
import Derived.Test.YtagemhmjpfldoaaCore
namespace Go.Proofs.Ytagemhmjpfldoaa
open Go.RowKit
set_option linter.unusedVariables false
set_option linter.unusedSimpArgs false

/-- At block b lies a ring of room m over the block bs; it holds l. -/
def Ring (E T : TypeId) (w : World) (b bs m : Nat) (l : List Value) : Prop :=
  ∃ (first : Nat) (c : Array Value), w.heap[b]? = some (.cells #[.slice (some ⟨bs, 0, none⟩) m m, .int .i64 (first : Int), .int .i64 (l.length : Int)] T (0, 0)) ∧
    w.heap[bs]? = some (.cells c E (0, 0)) ∧ b ≠ bs ∧ c.size = m ∧ m ≤ 256 ∧ first < m ∧ l.length ≤ m ∧ ∀ i (h : i < l.length), c[(first + i) % m]? = some l[i]

theorem Ring.kept {E T : TypeId} {S : List Nat} {w w' : World} {b bs m : Nat} {l : List Value} (h : Ring E T w b bs m l) (hk : Kept S w w') (h1 : b ∉ S) (h2 : bs ∉ S) : Ring E T w' b bs m l := by
  obtain ⟨first, c, hb, hbs, rest⟩ := h
  exact ⟨first, c, hk.blk hb h1, hk.blk hbs h2, rest⟩
theorem Ring.lt {E T : TypeId} {w : World} {b bs m : Nat} {l : List Value} (h : Ring E T w b bs m l) : b < w.heap.size ∧ bs < w.heap.size := by
  obtain ⟨first, c, hb, hbs, rest⟩ := h
  exact ⟨lt_of_blk hb, lt_of_blk hbs⟩
theorem Ring.le {E T : TypeId} {w : World} {b bs m : Nat} {l : List Value} (h : Ring E T w b bs m l) : l.length ≤ m ∧ m ≤ 256 ∧ 0 < m := by
  obtain ⟨first, c, hb, hbs, h1, h2, h3, h4, h5, _⟩ := h
  exact ⟨h5, h3, by omega⟩

theorem Ring.sim {E T : TypeId} {w w' : World} {b bs m : Nat} {l : List Value} (h : Ring E T w b bs m l) (hs : Sim w w') : Ring E T w' b bs m l := by
  unfold Ring at *
  rw [hs.heap]
  exact h

/-- The facts on cells that a walk over a ring wants. -/
structure RingCells (w : World) (b bs m first n : Nat) : Prop where
  h0 : w.cell? ⟨b, 0, none⟩ = some (.slice (some ⟨bs, 0, none⟩) m m)
  h1 : w.cell? ⟨b, 0 + 1, none⟩ = some (.int .i64 (first : Int))
  h2 : w.cell? ⟨b, 0 + 2, none⟩ = some (.int .i64 (n : Int))
  g1 : w.frozen? ⟨b, 0 + 1, none⟩ = false
  g2 : w.frozen? ⟨b, 0 + 2, none⟩ = false
  gs : ∀ j, w.frozen? ⟨bs, j, none⟩ = false
  hm : m ≤ 256
  hf : first < m
  hn : n ≤ m
  hne : ¬ b = bs

theorem ring_cells {w : World} {b bs m first n : Nat} {E T : TypeId} {c : Array Value} (hb : w.heap[b]? = some (.cells #[.slice (some ⟨bs, 0, none⟩) m m, .int .i64 (first : Int), .int .i64 (n : Int)] T (0, 0)))
    (hbs : w.heap[bs]? = some (.cells c E (0, 0))) (hne : b ≠ bs) (hm : m ≤ 256) (hf : first < m) (hn : n ≤ m) : RingCells w b bs m first n :=
  ⟨by rw [cell_of hb]; rfl, by rw [cell_of hb]; rfl, by rw [cell_of hb]; rfl, frozen_of hb, frozen_of hb, fun _ => frozen_of hbs, hm, hf, hn, hne⟩

theorem mod_step {m first n j : Nat} (hj : (first + n) % m = j) (hn : n < m) (hf : first < m) : ∀ i, i < n → (first + i) % m ≠ j := by
  intro i hi h
  have h1 : (first + i) % m = (first + n) % m := by rw [h, hj]
  rcases Nat.lt_or_ge (first + i) m with a | a <;> rcases Nat.lt_or_ge (first + n) m with b | b
  · rw [Nat.mod_eq_of_lt a, Nat.mod_eq_of_lt b] at h1; omega
  · rw [Nat.mod_eq_of_lt a, Nat.mod_eq_sub_mod b, Nat.mod_eq_of_lt (by omega)] at h1; omega
  · omega
  · rw [Nat.mod_eq_sub_mod a, Nat.mod_eq_sub_mod b, Nat.mod_eq_of_lt (by omega), Nat.mod_eq_of_lt (by omega)] at h1; omega

theorem set_get_ne {c : Array Value} {i j : Nat} {v x : Value} (h : c[i]? = some x) (hne : i ≠ j) : (c.setIfInBounds j v)[i]? = some x := by
  rw [Array.getElem?_setIfInBounds]; rw [if_neg (fun e => hne e.symm)]; exact h
theorem set_get_eq {c : Array Value} {j : Nat} {v : Value} (h : j < c.size) : (c.setIfInBounds j v)[j]? = some v := by
  simp [h]

/-- Behind Put: the new thing lies at its place, the count is one more. -/
theorem Ring.put_step {E T : TypeId} {w : World} {b bs m first j k : Nat} {l : List Value} {c : Array Value} (x : Value)
    (hb : w.heap[b]? = some (.cells #[.slice (some ⟨bs, 0, none⟩) m m, .int .i64 (first : Int), .int .i64 (l.length : Int)] T (0, 0)))
    (hbs : w.heap[bs]? = some (.cells c E (0, 0))) (hne : b ≠ bs) (hc : c.size = m) (hm : m ≤ 256) (hf : first < m) (hl : l.length < m)
    (hcell : ∀ i (h : i < l.length), c[(first + i) % m]? = some l[i]) (hj : (first + l.length) % m = j) :
    Ring E T (((w.drewN k).setCell ⟨bs, j, none⟩ x).setCell ⟨b, 2, none⟩ (.int .i64 ((l.length : Int) + 1))) b bs m (l ++ [x]) := by
  have hjm : j < m := by rw [← hj]; exact Nat.mod_lt _ (by omega)
  refine ⟨first, c.setIfInBounds j x, ?_, ?_, hne, by simpa using hc, hm, hf, by simp; omega, fun i hi => ?_⟩
  · have h1 := blk_set (o := 2) (blk_set_other (p := ⟨bs, j, none⟩) (blk_drewN (n := k) hb) hne x) (.int .i64 ((l.length : Int) + 1))
    simpa using h1
  · exact blk_set_other (p := ⟨b, 2, none⟩) (blk_set (blk_drewN (n := k) hbs) x) (fun e => hne e.symm) _
  · simp only [List.length_append, List.length_cons, List.length_nil] at hi
    by_cases e : i < l.length
    · rw [List.getElem_append_left e]
      exact set_get_ne (hcell i e) (mod_step hj hl hf i e)
    · have e' : i = l.length := by omega
      subst e'
      rw [hj, set_get_eq (by omega)]
      simp

/-- Behind Take. -/
theorem Ring.take_step {E T : TypeId} {w : World} {b bs m first j k : Nat} {x z : Value} {l : List Value} {c : Array Value}
    (hb : w.heap[b]? = some (.cells #[.slice (some ⟨bs, 0, none⟩) m m, .int .i64 (first : Int), .int .i64 ((x :: l).length : Int)] T (0, 0)))
    (hbs : w.heap[bs]? = some (.cells c E (0, 0))) (hne : b ≠ bs) (hc : c.size = m) (hm : m ≤ 256) (hf : first < m) (hl : (x :: l).length ≤ m)
    (hcell : ∀ i (h : i < (x :: l).length), c[(first + i) % m]? = some (x :: l)[i]) (hj : (first + 1) % m = j) (n' : Int) (hn' : n' = (l.length : Int)) :
    Ring E T ((((w.drewN k).setCell ⟨bs, first, none⟩ z).setCell ⟨b, 1, none⟩ (.int .i64 (j : Int))).setCell ⟨b, 2, none⟩ (.int .i64 n')) b bs m l := by
  subst hn'
  simp only [List.length_cons] at hl
  refine ⟨j, c.setIfInBounds first z, ?_, ?_, hne, by simpa using hc, hm, by rw [← hj]; exact Nat.mod_lt _ (by omega), by omega, fun i hi => ?_⟩
  · have h1 := blk_set (o := 2) (blk_set (o := 1) (blk_set_other (p := ⟨bs, first, none⟩) (blk_drewN (n := k) hb) hne z) (.int .i64 (j : Int))) (.int .i64 (l.length : Int))
    simpa using h1
  · exact blk_set_other (p := ⟨b, 2, none⟩) (blk_set_other (p := ⟨b, 1, none⟩) (blk_set (blk_drewN (n := k) hbs) z) (fun e => hne e.symm) _) (fun e => hne e.symm) _
  · have h1 := hcell (i + 1) (by simp; omega)
    have e : (j + i) % m = (first + (i + 1)) % m := by rw [← hj, Nat.mod_add_mod]; congr 1; omega
    rw [e]
    refine set_get_ne (by simpa using h1) ?_
    intro h
    have := mod_step (m := m) (first := first) (n := i + 1) (j := first) h (by omega) hf 0 (by omega)
    rw [Nat.add_zero, Nat.mod_eq_of_lt hf] at this
    exact this rfl

theorem Ring.head {x : Value} {l : List Value} {c : Array Value} {m first : Nat} (hf : first < m) (hcell : ∀ i (h : i < (x :: l).length), c[(first + i) % m]? = some (x :: l)[i]) : c[first]? = some x := by
  have := hcell 0 (by simp)
  rwa [Nat.add_zero, Nat.mod_eq_of_lt hf] at this

theorem idx_cast {m first n j : Nat} (hj : (first + n) % m = j) : ((first : Int) + (n : Int)) % (m : Int) = (j : Int) := by
  rw [← hj]; simp

end Go.Proofs.Ytagemhmjpfldoaa
