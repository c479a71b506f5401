/- Words that all walks of this seat share: what a call leaves of memory ('Kept'), slices that read as a list ('Sl'), a region that reads and then stores. -/
import Derived.Test.YtkemkoiknoefdaaProg
import Derived.WalkKit
import Derived.OpenShut
import Derived.WalkSpells
import Derived.WalkLawsBesides
import Derived.Deep.QuietTactic
import Derived.BigQuiet
import Derived.StillTailTactics
namespace Go.Proofs.Ytkemkoiknoefdaa
open Go.RowKit
set_option linter.unusedVariables false
set_option linter.unusedSimpArgs false

theorem ret_bool {b : Bool} (h : b = true) : Ending.returned (.bool b) = .returned (.bool true) := by rw [h]
theorem ret_int {k : IntKind} {a b : Int} (h : a = b) : Ending.returned (.int k a) = .returned (.int k b) := by rw [h]
theorem hid {p : Prop} (h : p) : Hid p := h

theorem wpStill_of_quiet {P : Program} {ops : Array Oper} {w : World} {Q : Act → Prop} : ∀ (l : List Oper) (a : Act),
    wpQuiet P ops (fun W => W = w) Q l a → wpStill P ops w Q l a
  | [], _, h => h
  | o :: l, a, h => by
    unfold wpQuiet at h
    unfold wpStill
    split
    · rename_i hw
      rw [if_pos hw] at h
      obtain ⟨v, hv, hn⟩ := h
      have hv := hv w rfl
      unfold Oper.still
      unfold Oper.quietAt at hv
      revert hv
      generalize (execOp a.eval o).run P w = r
      cases r with
      | ok n w' =>
        cases n <;> simp only [Oper.quietUpon, Oper.stillUpon]
        case value u => rintro ⟨rfl, rfl⟩; exact ⟨rfl, wpStill_of_quiet l _ hn⟩
        case skip => rintro ⟨rfl, rfl⟩; exact ⟨rfl, wpStill_of_quiet l _ hn⟩
        case enter f args => rintro ⟨rfl, hc⟩; exact ⟨rfl, v, hc, wpStill_of_quiet l _ hn⟩
        all_goals exact fun h => h.elim
      | halt x w' => exact fun h => h.elim
    · rename_i hw
      rw [if_neg hw] at h
      exact wpStill_of_quiet l _ h

/-- A region that draws its order: n operations that read, then the tail, in its own order. -/
theorem wp_region_quiet_tail {P : Program} {id : Nat} {Q : Exit → Act → World → Prop} {a : Act} {w : World} {l : List Oper} (n : Nat) (hm : P.follows .mixedOrders = true) (hB : Region.lexTailB .any l.toArray n = true)
    (h : wpQuiet P l.toArray (fun W => W = w.drew) (fun a' => wpList P l.toArray Q (l.drop n) a' w.drew) (l.take n) a) : (Code.region id l.toArray true).wp P Q a w :=
  wp_region_still_tail n hm hB (wpStill_of_quiet _ _ h)

/-- The world w' is w but for the blocks of S, and new blocks. -/
structure Kept (S : List Nat) (w w' : World) : Prop where
  os : w'.os = w.os
  tape : w'.tape = w.tape
  output : w'.output = w.output
  size : w.heap.size ≤ w'.heap.size
  block : ∀ k, k < w.heap.size → k ∉ S → w'.heap[k]? = w.heap[k]?

theorem Kept.refl (S : List Nat) (w : World) : Kept S w w := ⟨rfl, rfl, rfl, Nat.le_refl _, fun _ _ _ => rfl⟩
theorem Kept.trans {S : List Nat} {a b c : World} (h : Kept S a b) (k : Kept S b c) : Kept S a c :=
  ⟨k.os.trans h.os, k.tape.trans h.tape, k.output.trans h.output, Nat.le_trans h.size k.size, fun i hi hs => (k.block i (Nat.lt_of_lt_of_le hi h.size) hs).trans (h.block i hi hs)⟩
theorem Kept.mono {S S' : List Nat} {a b : World} (h : Kept S a b) (hs : ∀ k, k ∈ S → k ∈ S') : Kept S' a b :=
  ⟨h.os, h.tape, h.output, h.size, fun i hi hn => h.block i hi (fun hm => hn (hs i hm))⟩
theorem Kept.join {S S' : List Nat} {a b c : World} (h : Kept S a b) (k : Kept S' b c) (hs : ∀ i, i ∈ S' → i < a.heap.size → i ∈ S) : Kept S a c :=
  ⟨k.os.trans h.os, k.tape.trans h.tape, k.output.trans h.output, Nat.le_trans h.size k.size, fun i hi hn => (k.block i (Nat.lt_of_lt_of_le hi h.size) (fun hm => hn (hs i hm hi))).trans (h.block i hi hn)⟩
theorem Kept.drewN (S : List Nat) (w : World) (n : Nat) : Kept S w (w.drewN n) := ⟨rfl, rfl, rfl, Nat.le_refl _, fun _ _ _ => rfl⟩
theorem Kept.setCell {S : List Nat} {a w : World} (h : Kept S a w) {p : Addr} (hp : p.block ∈ S) (u : Value) : Kept S a (w.setCell p u) :=
  h.trans ⟨rfl, rfl, rfl, by simp [World.setCell], fun k _ hk => Below.heap_setCell _ _ _ _ (fun e => hk (e ▸ hp))⟩
theorem Kept.alloc {S : List Nat} {a w : World} (h : Kept S a w) (o : Obj) : Kept S a (w.alloc o) :=
  h.trans ⟨rfl, rfl, rfl, by simp, fun k hk _ => Below.heap_alloc _ _ _ hk⟩
theorem Kept.drew {S : List Nat} {a w : World} (h : Kept S a w) : Kept S a w.drew := ⟨h.os, h.tape, h.output, h.size, h.block⟩
theorem Kept.drewN' {S : List Nat} {a w : World} (h : Kept S a w) (n : Nat) : Kept S a (w.drewN n) := ⟨h.os, h.tape, h.output, h.size, h.block⟩
theorem Kept.blk {S : List Nat} {a w : World} (h : Kept S a w) {k : Nat} {o : Obj} (hk : a.heap[k]? = some o) (hs : k ∉ S) : w.heap[k]? = some o :=
  (h.block k (Array.getElem?_eq_some_iff.1 hk).1 hs).trans hk
theorem Kept.grown {S : List Nat} {a w w' : World} {row : Option Nat} (h : Kept S a w) (hg : w.grownBy w' row) (hr : ∀ k, row = some k → k < a.heap.size → k ∈ S) : Kept S a w' :=
  ⟨hg.os.trans h.os, hg.tape.trans h.tape, hg.output.trans h.output, Nat.le_trans h.size hg.size, fun k hk hn => (hg.block k (Nat.lt_of_lt_of_le hk h.size) (fun e => hn (hr k e.symm hk))).trans (h.block k hk hn)⟩
theorem Kept.below {S : List Nat} {B : Nat} {a w : World} (h : Kept S a w) (hs : ∀ k, k ∈ S → B ≤ k) (hB : B ≤ a.heap.size) : Below B a w :=
  ⟨h.os, h.tape, h.output, h.size, fun k hk => h.block k (Nat.lt_of_lt_of_le hk hB) (fun hm => by have := hs k hm; omega)⟩
theorem Kept.grownBy {S : List Nat} {a w : World} (h : Kept S a w) (row : Option Nat) (hs : ∀ k, k ∈ S → row = some k) : a.grownBy w row :=
  ⟨h.os, h.tape, h.output, h.size, fun k hk hr => h.block k hk (fun hm => hr (hs k hm).symm)⟩

/-- Two worlds that differ in the count of draws alone. -/
structure Sim (w w' : World) : Prop where
  heap : w'.heap = w.heap
  os : w'.os = w.os
  tape : w'.tape = w.tape
  output : w'.output = w.output
theorem Sim.kept {S : List Nat} {a w w' : World} (h : Sim w w') (k : Kept S a w) : Kept S a w' :=
  ⟨h.os.trans k.os, h.tape.trans k.tape, h.output.trans k.output, by rw [h.heap]; exact k.size, fun i hi hn => by rw [h.heap]; exact k.block i hi hn⟩
theorem Sim.refl (w : World) : Sim w w := ⟨rfl, rfl, rfl, rfl⟩
theorem Sim.of_drewN {w w' : World} (h : ∃ k, w' = w.drewN k) : Sim w w' := by obtain ⟨k, rfl⟩ := h; exact ⟨rfl, rfl, rfl, rfl⟩

theorem lt_of_blk {w : World} {b : Nat} {o : Obj} (h : w.heap[b]? = some o) : b < w.heap.size := (Array.getElem?_eq_some_iff.1 h).1
theorem cell_of {w : World} {b o : Nat} {c : Array Value} {T : TypeId} {fr : Nat × Nat} (h : w.heap[b]? = some (.cells c T fr)) : w.cell? ⟨b, o, none⟩ = c[o]? := by simp [World.cell?, h]
theorem frozen_of {w : World} {b o : Nat} {c : Array Value} {T : TypeId} (h : w.heap[b]? = some (.cells c T (0, 0))) : w.frozen? ⟨b, o, none⟩ = false := by simp [World.frozen?, h]
theorem blk_set {w : World} {b o : Nat} {c : Array Value} {T : TypeId} {fr : Nat × Nat} (h : w.heap[b]? = some (.cells c T fr)) (v : Value) : (w.setCell ⟨b, o, none⟩ v).heap[b]? = some (.cells (c.setIfInBounds o v) T fr) := by
  simp [World.setCell, Array.getElem?_modify, h]
theorem blk_set_other {w : World} {k : Nat} {p : Addr} {o : Option Obj} (h : w.heap[k]? = o) (hne : k ≠ p.block) (v : Value) : (w.setCell p v).heap[k]? = o := by
  rw [Below.heap_setCell _ _ _ _ hne, h]
theorem blk_drewN {w : World} {k n : Nat} {o : Option Obj} (h : w.heap[k]? = o) : (w.drewN n).heap[k]? = o := h
theorem blk_alloc_new (w : World) (o : Obj) : (w.alloc o).heap[w.heap.size]? = some o := heap_alloc_new w o
theorem blk_alloc_old {w : World} {k : Nat} {x : Obj} (h : w.heap[k]? = some x) (o : Obj) : (w.alloc o).heap[k]? = some x := by
  rw [Below.heap_alloc _ _ _ (lt_of_blk h), h]

/-- The slice value v reads, in w, as the list xs (one cell an element). -/
def Sl (w : World) (v : Value) (xs : List Value) : Prop :=
  ∃ a cap, v = .slice a xs.length cap ∧ xs.length ≤ cap ∧ cap ≤ maxLen ∧ (0 < xs.length → ∃ g off, a = some ⟨g, off, none⟩ ∧ ∀ i (h : i < xs.length), w.cell? ⟨g, off + i, none⟩ = some xs[i])

/-- The block in which a slice value lies is one of S. -/
def In (S : List Nat) (v : Value) : Prop := ∀ k, v.ownBlock = some k → k ∈ S
def NotIn (S : List Nat) (v : Value) : Prop := ∀ k, v.ownBlock = some k → k ∉ S

theorem Sl.nil (w : World) : Sl w (.slice none 0 0) [] := ⟨none, 0, rfl, by simp, by simp, fun h => by simp at h⟩
theorem Sl.kept {S : List Nat} {w w' : World} {v : Value} {xs : List Value} (h : Sl w v xs) (hk : Kept S w w') (hn : NotIn S v) : Sl w' v xs := by
  obtain ⟨a, cap, rfl, h1, h2, h3⟩ := h
  refine ⟨a, cap, rfl, h1, h2, fun hp => ?_⟩
  obtain ⟨g, off, rfl, hc⟩ := h3 hp
  refine ⟨g, off, rfl, fun i hi => ?_⟩
  rw [← hc i hi]
  have := World.block_lt_of_cell? w _ (hc 0 hp)
  exact World.cell?_of_block (w := w) (hk.block g this (hn g rfl))
theorem Sl.below {B : Nat} {w w' : World} {v : Value} {xs : List Value} (h : Sl w v xs) (hk : Below B w w') (hn : ∀ k, v.ownBlock = some k → k < B) : Sl w' v xs := by
  obtain ⟨a, cap, rfl, h1, h2, h3⟩ := h
  refine ⟨a, cap, rfl, h1, h2, fun hp => ?_⟩
  obtain ⟨g, off, rfl, hc⟩ := h3 hp
  refine ⟨g, off, rfl, fun i hi => ?_⟩
  rw [← hc i hi]
  exact World.cell?_of_block (w := w) (hk.block g (hn g rfl))
/-- What was there when the call began is not in what it made since. -/
theorem Sl.old {S : List Nat} {w0 w : World} {v : Value} {xs : List Value} (h : Sl w0 v xs) (hk : Kept S w0 w) (hS : ∀ k ∈ S, w0.heap.size ≤ k) : Sl w v xs := by
  obtain ⟨a, cap, rfl, h1, h2, h3⟩ := h
  refine ⟨a, cap, rfl, h1, h2, fun hp => ?_⟩
  obtain ⟨g, off, rfl, hc⟩ := h3 hp
  have hg := World.block_lt_of_cell? w0 _ (hc 0 hp)
  refine ⟨g, off, rfl, fun i hi => ?_⟩
  rw [← hc i hi]
  exact World.cell?_of_block (w := w0) (hk.block g hg (fun hm => by have := hS g hm; simp at hg; omega))
theorem Sl.lt {w : World} {v : Value} {xs : List Value} (h : Sl w v xs) (hp : 0 < xs.length) : ∀ k, v.ownBlock = some k → k < w.heap.size := by
  obtain ⟨a, cap, rfl, h1, h2, h3⟩ := h
  obtain ⟨g, off, rfl, hc⟩ := h3 hp
  intro k hk
  obtain rfl : g = k := by simpa [Value.ownBlock] using hk
  exact World.block_lt_of_cell? w _ (hc 0 hp)
theorem Sl.empty (w : World) (a : Option Addr) {cap : Nat} (h : cap ≤ maxLen) : Sl w (.slice a 0 cap) [] := ⟨a, cap, rfl, by simp, h, fun h => by simp at h⟩

theorem Sl.cell {w : World} {a : Option Addr} {n cap : Nat} {xs : List Value} (h : Sl w (.slice a n cap) xs) {i : Nat} (hi : i < xs.length) : ∃ g off, a = some ⟨g, off, none⟩ ∧ w.cell? ⟨g, off + i, none⟩ = some xs[i] := by
  obtain ⟨a', cap', h, h1, h2, h3⟩ := h
  cases h
  obtain ⟨g, off, rfl, hc⟩ := h3 (by omega)
  exact ⟨g, off, rfl, hc i hi⟩
theorem Sl.len {w : World} {a : Option Addr} {n cap : Nat} {xs : List Value} (h : Sl w (.slice a n cap) xs) : n = xs.length ∧ xs.length ≤ cap ∧ cap ≤ maxLen := by
  obtain ⟨a', cap', h, h1, h2, h3⟩ := h
  cases h
  exact ⟨rfl, h1, h2⟩
theorem Sl.take {w : World} {a : Option Addr} {n cap : Nat} {xs : List Value} (h : Sl w (.slice a n cap) xs) {k : Nat} (hk : k ≤ n) : Sl w (.slice a k cap) (xs.take k) := by
  obtain ⟨b, cap', h, h1, h2, h3⟩ := h
  cases h
  have hl : (xs.take k).length = k := by simp; omega
  refine ⟨a, cap, by rw [hl], by omega, h2, fun hp => ?_⟩
  obtain ⟨g, off, rfl, hc⟩ := h3 (by omega)
  exact ⟨g, off, rfl, fun i hi => by rw [hc i (by omega)]; simp⟩
theorem Sl.drop {w : World} {g off n cap : Nat} {xs : List Value} (h : Sl w (.slice (some ⟨g, off, none⟩) n cap) xs) {k : Nat} (hk : k ≤ n) : Sl w (.slice (some ⟨g, off + k, none⟩) (n - k) (cap - k)) (xs.drop k) := by
  obtain ⟨b, cap', h, h1, h2, h3⟩ := h
  cases h
  have hl : (xs.drop k).length = xs.length - k := by simp
  refine ⟨_, cap - k, by rw [hl], by omega, by omega, fun hp => ?_⟩
  obtain ⟨g', off', he, hc⟩ := h3 (by omega)
  cases he
  exact ⟨g, off + k, rfl, fun i hi => by rw [Nat.add_assoc, hc (k + i) (by omega)]; simp⟩
/-- A slice written out: its cells lie in a block of its own. -/
theorem Sl.lit (w : World) (c : Array Value) (E : TypeId) (n : Nat) (hn : c.size = n) (hm : n ≤ maxLen) : Sl (w.alloc (.cells c E)) (.slice (some ⟨w.heap.size, 0, none⟩) n n) c.toList := by
  refine ⟨_, n, by simp [hn], by simp [hn], hm, fun hp => ⟨w.heap.size, 0, rfl, fun i hi => ?_⟩⟩
  rw [cell_of (blk_alloc_new w _), Nat.zero_add, Array.getElem?_eq_getElem (by simpa using hi)]
  simp
theorem not_in_nil (v : Value) : NotIn [] v := fun _ _ => by simp

end Go.Proofs.Ytkemkoiknoefdaa
