/- The wheel in memory. -/
import Derived.Test.YtkemkoiknoefdaaMp
import Derived.Test.YtkemkoiknoefdaaSteps
import Derived.Laws.Tables
namespace Go.Proofs.Ytkemkoiknoefdaa
open Go.RowKit
set_option linter.unusedVariables false
set_option linter.unusedSimpArgs false

/-- A timer: when, its number, how it came. -/
structure Tm where
  due : Nat
  id : Int
  n : Nat
def tmRow (t : Tm) : List Value := [.int .u64 (t.due : Int), .int .i64 t.id, .int .u64 (t.n : Int)]
def tms : List Tm → List Value
  | [] => []
  | t :: l => tmRow t ++ tms l
theorem tms_length : ∀ l, (tms l).length = l.length * 3
  | [] => rfl
  | q :: l => by simp [tms, tms_length l, tmRow]; omega
theorem tms_append : ∀ l l', tms (l ++ l') = tms l ++ tms l'
  | [], l' => rfl
  | q :: l, l' => by simp [tms, tms_append l l']
theorem tms_get : ∀ (l : List Tm) (i : Nat) (h : i < l.length) (j : Nat) (hj : j < 3), (tms l)[i * 3 + j]? = (tmRow l[i])[j]?
  | q :: l, 0, h, j, hj => by simp [tms]; rw [List.getElem?_append_left (by simp [tmRow]; omega)]
  | q :: l, i + 1, h, j, hj => by
    simp only [tms, List.getElem_cons_succ]
    rw [List.getElem?_append_right (by simp [tmRow]; omega), ← tms_get l i (by simpa using h) j hj]
    congr 1
    simp [tmRow]; omega

/-- The wheel at block b: now, n; its map at mb (cnt: a bound on its entries, d: what it holds, sz: how many); its 80 slots and what is farther (the 81st): the slice values vs own the timers sl. -/
structure Wh (w : World) (b mb now n cnt : Nat) (d : Int → Nat) (sz : Nat) (vs : Nat → Value) (sl : Nat → List Tm) : Prop where
  blk : ∃ cs : Array Value, w.heap[b]? = some (.cells cs 58 (0, 0)) ∧ cs.size = 84 ∧ cs[0]? = some (.int .u64 (now : Int)) ∧ cs[1]? = some (.int .u64 (n : Int)) ∧ cs[2]? = some (.map (some mb)) ∧ ∀ i, i < 81 → cs[3 + i]? = some (vs i)
  map : Mp w mb cnt d sz
  own : ∀ i, i < 81 → Own 0 61 3 w (vs i) (sl i).length (tms (sl i))
  bm : b ≠ mb
  nb : ∀ i, i < 81 → (vs i).ownBlock ≠ some b ∧ (vs i).ownBlock ≠ some mb
  ap : ∀ i j, i < 81 → j < 81 → i ≠ j → ∀ k, (vs i).ownBlock = some k → (vs j).ownBlock ≠ some k
/-- The blocks of a wheel. -/
def Wh.In (b mb : Nat) (vs : Nat → Value) (k : Nat) : Prop := k = b ∨ k = mb ∨ ∃ i, i < 81 ∧ (vs i).ownBlock = some k
theorem Wh.kept {S : List Nat} {w w' : World} {b mb now n cnt sz : Nat} {d : Int → Nat} {vs : Nat → Value} {sl : Nat → List Tm} (h : Wh w b mb now n cnt d sz vs sl) (hk : Kept S w w') (hS : ∀ k ∈ S, ¬ Wh.In b mb vs k) : Wh w' b mb now n cnt d sz vs sl := by
  obtain ⟨cs, h0, hrest⟩ := h.blk
  exact ⟨⟨cs, hk.blk h0 (fun hm => hS _ hm (.inl rfl)), hrest⟩, h.map.kept hk (fun hm => hS _ hm (.inr (.inl rfl))), fun i hi => (h.own i hi).kept hk (fun k hk' hm => hS _ hm (.inr (.inr ⟨i, hi, hk'⟩))), h.bm, h.nb, h.ap⟩
theorem Wh.still {w w' : World} {b mb now n cnt sz : Nat} {d : Int → Nat} {vs : Nat → Value} {sl : Nat → List Tm} (h : Wh w b mb now n cnt d sz vs sl) (hk : Kept [] w w') : Wh w' b mb now n cnt d sz vs sl := h.kept hk (by simp)
theorem Wh.c0 {w : World} {b mb now n cnt sz : Nat} {d : Int → Nat} {vs : Nat → Value} {sl : Nat → List Tm} (h : Wh w b mb now n cnt d sz vs sl) : w.cell? ⟨b, 0, none⟩ = some (.int .u64 (now : Int)) := by
  obtain ⟨cs, h0, h1, h2, h3, h4, h5⟩ := h.blk
  exact (cell_of h0).trans h2
theorem Wh.c1 {w : World} {b mb now n cnt sz : Nat} {d : Int → Nat} {vs : Nat → Value} {sl : Nat → List Tm} (h : Wh w b mb now n cnt d sz vs sl) : w.cell? ⟨b, 1, none⟩ = some (.int .u64 (n : Int)) := by
  obtain ⟨cs, h0, h1, h2, h3, h4, h5⟩ := h.blk
  exact (cell_of h0).trans h3
theorem Wh.c2 {w : World} {b mb now n cnt sz : Nat} {d : Int → Nat} {vs : Nat → Value} {sl : Nat → List Tm} (h : Wh w b mb now n cnt d sz vs sl) : w.cell? ⟨b, 2, none⟩ = some (.map (some mb)) := by
  obtain ⟨cs, h0, h1, h2, h3, h4, h5⟩ := h.blk
  exact (cell_of h0).trans h4
theorem Wh.cs {w : World} {b mb now n cnt sz : Nat} {d : Int → Nat} {vs : Nat → Value} {sl : Nat → List Tm} (h : Wh w b mb now n cnt d sz vs sl) (i : Nat) (hi : i < 81) : w.cell? ⟨b, 3 + i, none⟩ = some (vs i) := by
  obtain ⟨cs, h0, h1, h2, h3, h4, h5⟩ := h.blk
  exact (cell_of h0).trans (h5 i hi)
theorem Wh.fr {w : World} {b mb now n cnt sz : Nat} {d : Int → Nat} {vs : Nat → Value} {sl : Nat → List Tm} (h : Wh w b mb now n cnt d sz vs sl) (o : Nat) : w.frozen? ⟨b, o, none⟩ = false := by
  obtain ⟨cs, h0, _⟩ := h.blk
  exact frozen_of h0

/-- A wheel that is nought. -/
def whZero : Array Value := #[.int .u64 0, .int .u64 0, .map none] ++ Array.replicate 81 (.slice none 0 0)
theorem whZero_is (w : World) : (zeroValue 58).run Try.prog w = .ok (.agg whZero) w := by kernel_rfl
theorem whZero_size : whZero.size = 84 := by kernel_rfl
theorem whZero_one : whZero[1]? = some (.int .u64 0) := by kernel_rfl
theorem whZero_at : ∀ i, i < 81 → whZero[3 + i]? = some (.slice none 0 0) := by
  intro i hi
  unfold whZero
  rw [Array.getElem?_append_right (by simp), Array.getElem?_replicate, if_pos (by simp; omega)]
theorem kept_new {w : World} (o : Obj) : Kept [] w (w.alloc o) := (Kept.refl _ _).alloc o
def NewPost (w : World) (now : Nat) (e : Ending) (w' : World) : Prop :=
  ∃ b mb, e = .returned (.tuple #[.pointer (some ⟨b, 0, none⟩), .int .i64 0]) ∧ Wh w' b mb now 0 0 (fun _ => 0) 0 (fun _ => .slice none 0 0) (fun _ => []) ∧ Kept [] w w' ∧ w.heap.size ≤ b ∧ w.heap.size ≤ mb
set_option maxRecDepth 100000 in
set_option maxHeartbeats 1000000 in
theorem new_ok (now : Nat) (w : World) (hn : now ≤ 1152921504606846976) :
    Calls Try.prog 16 #[.int .u64 (now : Int)] w (NewPost w now) := by
  have hni : ¬ (1152921504606846976 : Int) < (now : Int) := by omega
  have hmm := @run_makeMap Try.prog
  have hz := whZero_is
  have hs := whZero_size
  have hne : ¬ whZero = #[] := fun h => by rw [h] at hs; simp at hs
  go_enter Try.func16, Try.ntmps16
  go_wp2
  go_ret2
  have hb : ((w.alloc (.map #[] 0)).alloc (.cells ((whZero.setIfInBounds 0 (.int .u64 (now : Int))).setIfInBounds 2 (.map (some w.heap.size))) 58)).heap[w.heap.size + 1]? = some (.cells ((whZero.setIfInBounds 0 (.int .u64 (now : Int))).setIfInBounds 2 (.map (some w.heap.size))) 58 (0, 0)) := by
    have := blk_alloc_new (w.alloc (.map #[] 0)) (.cells ((whZero.setIfInBounds 0 (.int .u64 (now : Int))).setIfInBounds 2 (.map (some w.heap.size))) 58 (0, 0))
    simpa using this
  refine ⟨w.heap.size + 1, w.heap.size, rfl, ⟨⟨_, hb, by simp [hs], by simp [hs], by simp [Array.getElem?_setIfInBounds]; exact whZero_one, by simp [hs], fun i hi => by simp [Array.getElem?_setIfInBounds]; rw [if_neg (by omega), if_neg (by omega)]; exact whZero_at i hi⟩, (Mp.made w).kept (kept_new _) (by simp), fun i hi => Own.nil _ _ _ _, by simp, fun i hi => ⟨by simp [Value.ownBlock], by simp [Value.ownBlock]⟩, fun i j _ _ _ k hk => by cases hk⟩, (kept_new _).trans (kept_new _), by simp, by simp⟩
set_option maxHeartbeats 1000000 in
theorem new_bad (now : Int) (w : World) (hn : 1152921504606846976 < now) :
    Calls Try.prog 16 #[.int .u64 now] w fun e w' => e = .returned (.tuple #[.pointer none, .int .i64 1]) ∧ w = w' := by
  go_enter Try.func16, Try.ntmps16
  go_wp2
  go_ret2
  exact ⟨rfl, rfl⟩
end Go.Proofs.Ytkemkoiknoefdaa
