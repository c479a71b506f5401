/- The contracts of the ring's functions at element type string. -/
import Derived.Test.YtagemhmjpfldoaaRingBase
import Derived.Test.YtagemhmjpfldoaaOwn
namespace Go.Proofs.Ytagemhmjpfldoaa
namespace RSt
open Go.RowKit
set_option linter.unusedVariables false
set_option linter.unusedSimpArgs false

set_option maxHeartbeats 400000 in
theorem put_walk (b bs m first n j : Nat) (s : ByteArray) (v0 : Value) (w : World) (C : RingCells w b bs m first n) (hn : n < m)
    (hidx : ((first : Int) + n) % m = j) (hj : j < m) (h3 : w.cell? ⟨bs, j, none⟩ = some v0) :
    Calls Try.prog 54 #[.pointer (some ⟨b, 0, none⟩), .string s] w fun e w' => e = .returned (.int .i64 0) ∧ ∃ k, w' = ((w.drewN k).setCell ⟨bs, j, none⟩ (.string s)).setCell ⟨b, 2, none⟩ (.int .i64 ((n : Int) + 1)) := by
  obtain ⟨h0, h1, h2, g1, g2, gs, hm, hf, hnm, hne⟩ := C
  have g3 := gs j
  clear gs
  have hnm : ((n : Int) == m) = false := by simp; omega
  go_enter Try.func54, Try.ntmps54
  go_wp2
  go_quiet (fail)
  go_wp2
  refine wp_region_quiet_tail 21 (by kernel_rfl) (by kernel_rfl) ?_
  simp only [List.take_succ_cons, List.take_zero, List.drop_succ_cons, List.drop_zero]
  repeat (go_big_quiet_step (fail))
  refine wpQuiet_nil ?_
  go_wp2
  go_ret
  exact ⟨rfl, _, rfl⟩

set_option maxHeartbeats 400000 in
theorem put_full (b bs m first : Nat) (s : ByteArray) (w : World) (C : RingCells w b bs m first m) :
    Calls Try.prog 54 #[.pointer (some ⟨b, 0, none⟩), .string s] w fun e w' => e = .returned (.int .i64 7) ∧ ∃ k, w' = w.drewN k := by
  obtain ⟨h0, h1, h2, g1, g2, gs, hm, hf, hnm, hne⟩ := C
  clear gs
  have hnm : ((m : Int) == m) = true := by simp
  go_enter Try.func54, Try.ntmps54
  go_wp2
  go_quiet (fail)
  go_wp2
  go_ret
  exact ⟨rfl, _, rfl⟩

theorem put_nil (s : ByteArray) (w : World) :
    Calls Try.prog 54 #[.pointer none, .string s] w fun e w' => e = .returned (.int .i64 6) ∧ w = w' := by
  go_enter Try.func54, Try.ntmps54
  go_wp2
  go_ret
  exact ⟨rfl, rfl⟩

theorem put_ok {E T : TypeId} {w : World} {b bs m : Nat} {l : List Value} (h : Ring E T w b bs m l) (hl : l.length < m) (s : ByteArray) :
    Calls Try.prog 54 #[.pointer (some ⟨b, 0, none⟩), .string s] w fun e w' => e = .returned (.int .i64 0) ∧ Ring E T w' b bs m (l ++ [.string s]) ∧ Kept [b, bs] w w' := by
  obtain ⟨first, c, hb, hbs, hne, hc, hm, hf, hll, hcell⟩ := h
  have hjm : (first + l.length) % m < c.size := by rw [hc]; exact Nat.mod_lt _ (by omega)
  refine (put_walk b bs m first l.length ((first + l.length) % m) s c[(first + l.length) % m] w (ring_cells hb hbs hne hm hf hll) hl (idx_cast rfl) (hc ▸ hjm) (by rw [cell_of hbs, Array.getElem?_eq_getElem])).mono ?_
  rintro e w' ⟨rfl, k, rfl⟩
  exact ⟨rfl, Ring.put_step _ hb hbs hne hc hm hf hl hcell rfl, ((Kept.drewN _ w k).setCell (by simp) _).setCell (by simp) _⟩

theorem put_busy {E T : TypeId} {w : World} {b bs m : Nat} {l : List Value} (h : Ring E T w b bs m l) (hl : l.length = m) (s : ByteArray) :
    Calls Try.prog 54 #[.pointer (some ⟨b, 0, none⟩), .string s] w fun e w' => e = .returned (.int .i64 7) ∧ ∃ k, w' = w.drewN k := by
  obtain ⟨first, c, hb, hbs, hne, hc, hm, hf, hll, hcell⟩ := h
  have C := ring_cells hb hbs hne hm hf hll
  rw [hl] at C
  exact put_full b bs m first s w C

theorem len_any {E T : TypeId} {w : World} {b bs m : Nat} {l : List Value} (h : Ring E T w b bs m l) :
    Calls Try.prog 56 #[.pointer (some ⟨b, 0, none⟩)] w fun e w' => e = .returned (.int .i64 (l.length : Int)) ∧ w = w' := by
  obtain ⟨first, c, hb, hbs, hne, hc, hm, hf, hll, hcell⟩ := h
  obtain ⟨h0, h1, h2, g1, g2, gs, hm, hf, hnm, hne⟩ := ring_cells hb hbs hne hm hf hll
  clear hb hbs hcell gs hc
  generalize l.length = n at *
  go_enter Try.func56, Try.ntmps56
  go_wp2
  go_ret
  exact ⟨rfl, rfl⟩

theorem len_nil (w : World) :
    Calls Try.prog 56 #[.pointer none] w fun e w' => e = .returned (.int .i64 0) ∧ w = w' := by
  go_enter Try.func56, Try.ntmps56
  go_wp2
  go_ret
  exact ⟨rfl, rfl⟩

theorem room_any {E T : TypeId} {w : World} {b bs m : Nat} {l : List Value} (h : Ring E T w b bs m l) :
    Calls Try.prog 62 #[.pointer (some ⟨b, 0, none⟩)] w fun e w' => e = .returned (.int .i64 ((m : Int) - (l.length : Int))) ∧ ∃ k, w' = w.drewN k := by
  obtain ⟨first, c, hb, hbs, hne, hc, hm, hf, hll, hcell⟩ := h
  obtain ⟨h0, h1, h2, g1, g2, gs, hm, hf, hnm, hne⟩ := ring_cells hb hbs hne hm hf hll
  clear hb hbs hcell gs hc
  generalize l.length = n at *
  go_enter Try.func62, Try.ntmps62
  go_wp2
  go_quiet (fail)
  go_wp2
  go_ret
  exact ⟨rfl, _, rfl⟩

theorem room_nil (w : World) :
    Calls Try.prog 62 #[.pointer none] w fun e w' => e = .returned (.int .i64 0) ∧ w = w' := by
  go_enter Try.func62, Try.ntmps62
  go_wp2
  go_ret
  exact ⟨rfl, rfl⟩

set_option maxHeartbeats 400000 in
theorem take_walk (b bs m first n j : Nat) (x : Value) (w : World) (C : RingCells w b bs m first n) (hn : 0 < n) (hx : x.oneCell' = true)
    (hidx : ((first : Int) + 1) % m = j) (hj : j < m) (h3 : w.cell? ⟨bs, first, none⟩ = some x)
    (hlen : ∀ w', (∃ k, w' = w.drewN k) → Calls Try.prog 56 #[.pointer (some ⟨b, 0, none⟩)] w' fun e w'' => e = .returned (.int .i64 (n : Int)) ∧ w' = w'') :
    Calls Try.prog 57 #[.pointer (some ⟨b, 0, none⟩)] w fun e w' => e = .returned (.tuple #[x, .int .i64 0]) ∧
      Sim ((((w.drewN 0).setCell ⟨bs, first, none⟩ (.string ⟨#[]⟩)).setCell ⟨b, 1, none⟩ (.int .i64 (j : Int))).setCell ⟨b, 2, none⟩ (.int .i64 ((n : Int) - 1))) w' := by
  obtain ⟨h0, h1, h2, g1, g2, gs, hm, hf, hnm, hne⟩ := C
  have g3 := gs first
  clear gs
  have hne' : ¬ bs = b := fun e => hne e.symm
  have hn0 : ((n : Int) == 0) = false := by simp; omega
  go_enter Try.func57, Try.ntmps57
  go_wp2_with fail
  refine (hlen w ⟨0, rfl⟩).mono ?_
  rintro e w' ⟨rfl, rfl⟩
  clear hlen
  go_wp2
  go_quiet (fail)
  go_wp2
  refine wp_region_quiet_tail 9 (by kernel_rfl) (by kernel_rfl) ?_
  simp only [List.take_succ_cons, List.take_zero, List.drop_succ_cons, List.drop_zero]
  repeat (go_big_quiet_step (fail))
  refine wpQuiet_nil ?_
  go_wp2
  refine wp_region_quiet_tail 14 (by kernel_rfl) (by kernel_rfl) ?_
  simp only [List.take_succ_cons, List.take_zero, List.drop_succ_cons, List.drop_zero]
  repeat (go_big_quiet_step (fail))
  refine wpQuiet_nil ?_
  go_wp2
  go_ret2
  exact ⟨rfl, rfl, rfl, rfl, rfl⟩

theorem take_ok {E T : TypeId} {w : World} {b bs m : Nat} {x : Value} {l : List Value} (h : Ring E T w b bs m (x :: l)) (hx : x.oneCell' = true) :
    Calls Try.prog 57 #[.pointer (some ⟨b, 0, none⟩)] w fun e w' => e = .returned (.tuple #[x, .int .i64 0]) ∧ Ring E T w' b bs m l ∧ Kept [b, bs] w w' := by
  have h' := h
  obtain ⟨first, c, hb, hbs, hne, hc, hm, hf, hll, hcell⟩ := h
  refine (take_walk b bs m first (x :: l).length ((first + 1) % m) x w (ring_cells hb hbs hne hm hf hll) (by simp) hx (idx_cast (n := 1) rfl) (Nat.mod_lt _ (by omega)) (by rw [cell_of hbs]; exact Ring.head hf hcell) ?_).mono ?_
  · rintro w' ⟨k, rfl⟩
    exact len_any (h'.sim ⟨rfl, rfl, rfl, rfl⟩)
  rintro e w' ⟨rfl, hs⟩
  exact ⟨rfl, (Ring.take_step hb hbs hne hc hm hf hll hcell rfl _ (by simp)).sim hs, hs.kept ((((Kept.drewN _ w 0).setCell (by simp) _).setCell (by simp) _).setCell (by simp) _)⟩

set_option maxHeartbeats 400000 in
theorem take_empty (v : Value) (w : World) (hlen : Calls Try.prog 56 #[v] w fun e w'' => e = .returned (.int .i64 0) ∧ w = w'') :
    Calls Try.prog 57 #[v] w fun e w' => e = .returned (.tuple #[.string ⟨#[]⟩, .int .i64 6]) ∧ w = w' := by
  go_enter Try.func57, Try.ntmps57
  go_wp2_with fail
  refine hlen.mono ?_
  rintro e w' ⟨rfl, rfl⟩
  clear hlen
  go_wp2
  go_ret2
  exact ⟨rfl, rfl⟩
theorem take_none {E T : TypeId} {w : World} {b bs m : Nat} (h : Ring E T w b bs m []) :
    Calls Try.prog 57 #[.pointer (some ⟨b, 0, none⟩)] w fun e w' => e = .returned (.tuple #[.string ⟨#[]⟩, .int .i64 6]) ∧ w = w' := take_empty _ w (len_any h)
theorem take_nil (w : World) :
    Calls Try.prog 57 #[.pointer none] w fun e w' => e = .returned (.tuple #[.string ⟨#[]⟩, .int .i64 6]) ∧ w = w' := take_empty _ w (len_nil w)

set_option maxHeartbeats 400000 in
theorem at_walk (b bs m first n j : Nat) (i : Int) (x : Value) (w : World) (C : RingCells w b bs m first n) (hi : 0 ≤ i) (hin : i < n)
    (hidx : ((first : Int) + i) % m = j) (hj : j < m) (h3 : w.cell? ⟨bs, j, none⟩ = some x) :
    Calls Try.prog 63 #[.pointer (some ⟨b, 0, none⟩), .int .i64 i] w fun e w' => e = .returned (.tuple #[x, .int .i64 0]) ∧ ∃ k, w' = w.drewN k := by
  obtain ⟨h0, h1, h2, g1, g2, gs, hm, hf, hnm, hne⟩ := C
  clear gs g1 g2
  go_enter Try.func63, Try.ntmps63
  go_wp2
  go_quiet (fail)
  go_wp2
  go_ret2
  exact ⟨rfl, _, rfl⟩
set_option maxHeartbeats 400000 in
theorem at_walk_out (b bs m first n : Nat) (i : Int) (w : World) (C : RingCells w b bs m first n) (hi : i < 0 ∨ (n : Int) ≤ i) :
    Calls Try.prog 63 #[.pointer (some ⟨b, 0, none⟩), .int .i64 i] w fun e w' => e = .returned (.tuple #[.string ⟨#[]⟩, .int .i64 1]) ∧ w = w' := by
  obtain ⟨h0, h1, h2, g1, g2, gs, hm, hf, hnm, hne⟩ := C
  clear gs g1 g2
  rcases hi with hi | hi
  · go_enter Try.func63, Try.ntmps63
    go_wp2
    go_ret2
    exact ⟨rfl, rfl⟩
  · have hi0 : 0 ≤ i := by omega
    go_enter Try.func63, Try.ntmps63
    go_wp2
    go_ret2
    exact ⟨rfl, rfl⟩
theorem at_nil (i : Int) (w : World) :
    Calls Try.prog 63 #[.pointer none, .int .i64 i] w fun e w' => e = .returned (.tuple #[.string ⟨#[]⟩, .int .i64 6]) ∧ w = w' := by
  go_enter Try.func63, Try.ntmps63
  go_wp2
  go_ret2
  exact ⟨rfl, rfl⟩
theorem at_ok {E T : TypeId} {w : World} {b bs m : Nat} {l : List Value} (h : Ring E T w b bs m l) (i : Nat) (hi : i < l.length) :
    Calls Try.prog 63 #[.pointer (some ⟨b, 0, none⟩), .int .i64 (i : Int)] w fun e w' => e = .returned (.tuple #[l[i], .int .i64 0]) ∧ ∃ k, w' = w.drewN k := by
  obtain ⟨first, c, hb, hbs, hne, hc, hm, hf, hll, hcell⟩ := h
  exact at_walk b bs m first l.length ((first + i) % m) i l[i] w (ring_cells hb hbs hne hm hf hll) (by omega) (by omega) (idx_cast rfl) (Nat.mod_lt _ (by omega)) (by rw [cell_of hbs]; exact hcell i hi)
theorem at_out {E T : TypeId} {w : World} {b bs m : Nat} {l : List Value} (h : Ring E T w b bs m l) (i : Int) (hi : i < 0 ∨ (l.length : Int) ≤ i) :
    Calls Try.prog 63 #[.pointer (some ⟨b, 0, none⟩), .int .i64 i] w fun e w' => e = .returned (.tuple #[.string ⟨#[]⟩, .int .i64 1]) ∧ w = w' := by
  obtain ⟨first, c, hb, hbs, hne, hc, hm, hf, hll, hcell⟩ := h
  exact at_walk_out b bs m first l.length i w (ring_cells hb hbs hne hm hf hll) hi

theorem info_elem : (Try.prog.info? 9).map (fun i => (i.zero, i.size, i.bytes)) = some (some (.string ⟨#[]⟩), 1, 16) := by kernel_rfl

set_option maxHeartbeats 400000 in
theorem new_walk (k : Nat) (w : World) (h1 : 1 ≤ k) (h2 : k ≤ 256) :
    Calls Try.prog 60 #[.int .i64 (k : Int)] w fun e w' => ∃ w1 xs, w1.ownsRow 0 9 1 (.slice (some ⟨w.heap.size, 0, none⟩) k k) k xs ∧ w.grownBy w1 none ∧
      e = .returned (.tuple #[.pointer (some ⟨w1.heap.size, 0, none⟩), .int .i64 0]) ∧ w' = w1.alloc (.cells #[.slice (some ⟨w.heap.size, 0, none⟩) k k, .int .i64 0, .int .i64 0] 108) := by
  obtain ⟨i0, hi, hz0, hz1, hz2⟩ := info_parts info_elem
  have hk1 : ¬ (k : Int) < 1 := by omega
  have hk2 : ¬ (256 : Int) < k := by omega
  go_enter Try.func60, Try.ntmps60
  go_wp2_with (at_make; refine wpList_make_full _ rfl _ _ 32 rfl 0 9 i0 (.string ⟨#[]⟩) 1 Try.underlying32 hi hz0 hz1 .i64 .i64 k k k rfl rfl rfl rfl (by rw [hz2]; omega) (by unfold maxLen; omega) (Nat.zero_le _) ?_; intro w1 hown hgrow)
  go_ret2
  exact ⟨_, ⟨_, hown⟩, hgrow, rfl, rfl⟩

theorem new_ok (k : Nat) (w : World) (h1 : 1 ≤ k) (h2 : k ≤ 256) :
    Calls Try.prog 60 #[.int .i64 (k : Int)] w fun e w' => ∃ b bs, e = .returned (.tuple #[.pointer (some ⟨b, 0, none⟩), .int .i64 0]) ∧ Ring 9 108 w' b bs k [] ∧ Kept [] w w' ∧ w.heap.size ≤ b ∧ w.heap.size ≤ bs := by
  refine (new_walk k w h1 h2).mono ?_
  rintro e w' ⟨w1, xs, hown, hg, rfl, rfl⟩
  obtain ⟨hl, ⟨h, _⟩ | ⟨g, cap, cur, hv, hb, hblk, hn, hm, hs, ht⟩⟩ := hown
  · cases h
  · cases hv
    have hlt := lt_of_blk hblk
    exact ⟨w1.heap.size, w.heap.size, rfl, ⟨0, cur, blk_alloc_new _ _, blk_alloc_old hblk _, by omega, by omega, h2, by omega, by simp, fun i hi => by simp at hi⟩,
      ((Kept.refl [] w).grown hg (by simp)).alloc _, hg.size, Nat.le_refl _⟩

theorem new_any (k : Int) (m : Nat) (hk : k = (m : Int)) (w : World) (h1 : 1 ≤ m) (h2 : m ≤ 256) :
    Calls Try.prog 60 #[.int .i64 k] w fun e w' => ∃ b bs, e = .returned (.tuple #[.pointer (some ⟨b, 0, none⟩), .int .i64 0]) ∧ Ring 9 108 w' b bs m [] ∧ Kept [] w w' ∧ w.heap.size ≤ b ∧ w.heap.size ≤ bs := by
  subst hk
  exact new_ok m w h1 h2

set_option maxHeartbeats 400000 in
theorem new_bad (k : Int) (w : World) (h : k < 1 ∨ 256 < k) :
    Calls Try.prog 60 #[.int .i64 k] w fun e w' => e = .returned (.tuple #[.pointer none, .int .i64 1]) ∧ w = w' := by
  rcases h with h | h
  · go_enter Try.func60, Try.ntmps60
    go_wp2
    go_ret2
    exact ⟨rfl, rfl⟩
  · have h1 : ¬ k < 1 := by omega
    go_enter Try.func60, Try.ntmps60
    go_wp2
    go_ret2
    exact ⟨rfl, rfl⟩

set_option maxHeartbeats 400000 in
theorem first_nil (n : Int) (w : World) :
    Calls Try.prog 55 #[.pointer none, .int .i64 n] w fun e w' => e = .returned (.slice none 0 0) ∧ w = w' := by
  go_enter Try.func55, Try.ntmps55
  go_wp2
  go_loop [5, 6] (fun v i => v = .slice none 0 0 ∧ i = .int .i64 0) (fun _ _ => 0)
  case atStart => exact ⟨rfl, rfl⟩
  case round =>
    obtain ⟨rfl, rfl⟩ := hrel
    by_cases hn : 0 < n
    · go_wp2_with fail
      refine (len_nil w).mono ?_
      rintro e w' ⟨rfl, rfl⟩
      go_wp2
      go_ret
      exact ⟨rfl, rfl⟩
    · go_wp2
      go_ret
      exact ⟨rfl, rfl⟩

theorem first_stop (k : Nat) (l : List Value) (n : Int) (h1 : (k : Int) ≤ max n 0) (h2 : k ≤ l.length) (h3 : ¬ (k : Int) < n ∨ ¬ k < l.length) : l.take k = l.take n.toNat := by
  rcases Nat.lt_or_ge k l.length with h | h
  · have : k = n.toNat := by omega
    rw [this]
  · rw [List.take_of_length_le h, List.take_of_length_le (by omega)]

theorem first_rel {E : TypeId} {B : Nat} {w wr w1 : World} {kd k : Nat} {v v' : Value} {l : List Value} {x : Value} (hk : k < l.length) (hx : l[k] = x) (hB : w.heap.size = B)
    (hkept : Kept [] w wr) (hown : OwnL B E wr v (l.take k)) (h1 : OwnL B E w1 v' (l.take k ++ [x])) (hg : ∀ S, (∀ k, v.ownBlock = some k → k ∈ S) → Kept S (wr.drewN kd) w1) :
    OwnL B E w1 v' (l.take (k + 1)) ∧ Kept [] w w1 := by
  have e : l.take (k + 1) = l.take k ++ [x] := by rw [← hx]; simp [List.take_append_getElem]
  refine ⟨by rw [e]; exact h1, ?_⟩
  cases hv : v.ownBlock with
  | none => exact (hkept.drewN' kd).trans (hg [] (fun j hj => by rw [hv] at hj; cases hj))
  | some g =>
    have := (hown.lt g hv).1
    exact (hkept.drewN' kd).join (hg [g] (fun j hj => by rw [hv] at hj; cases hj; simp)) (fun i hi hlt => by simp at hi; omega)

set_option maxHeartbeats 800000 in
theorem first_any {E T : TypeId} {b bs m : Nat} {l : List Value} (n : Int) (w : World) (h : Ring E T w b bs m l) (hone : ∀ x ∈ l, ∃ s : ByteArray, x = .string s) :
    Calls Try.prog 55 #[.pointer (some ⟨b, 0, none⟩), .int .i64 n] w fun e w' => ∃ v, e = .returned v ∧ OwnL w.heap.size 9 w' v (l.take n.toNat) ∧ Kept [] w w' := by
  have hle := h.le
  have HR := hid h
  clear h
  generalize hB : w.heap.size = B
  have HB := hid hB
  clear hB
  go_enter Try.func55, Try.ntmps55
  go_wp2
  go_loopw [5, 6] (fun v i wr => ∃ k : Nat, (k : Int) ≤ max n 0 ∧ k ≤ l.length ∧ i = .int .i64 (k : Int) ∧ OwnL B 9 wr v (l.take k) ∧ Kept [] w wr) (fun _ i _ => l.length - (intOf i).toNat)
  case atStart => exact ⟨0, by omega, by omega, rfl, OwnL.nil _ _ _, Kept.refl _ _⟩
  case round =>
    obtain ⟨k, hk1, hk2, rfl, hown, hkept⟩ := hrel
    have hR := HR.out.kept hkept (by simp) (by simp)
    have hBw : B ≤ wr.heap.size := by have := hkept.size; have := HB.out; omega
    by_cases hkn : (k : Int) < n
    · go_wp2_with fail
      refine (len_any hR).mono ?_
      rintro e w' ⟨rfl, rfl⟩
      by_cases hkl : k < l.length
      · go_wp2_with fail
        refine (at_ok hR k hkl).mono ?_
        rintro e w' ⟨rfl, kd, rfl⟩
        have hlk : (l.take k).length ≤ 256 := by rw [List.length_take]; omega
        obtain ⟨s, hx⟩ := hone _ (List.getElem_mem hkl)
        rw [hx]
        have HX := hid hx
        clear hx
        go_wp2_with (at_builtin; refine wpList_append_L (wr.drewN kd) rfl (.tmp 26) (.tmp 28) 32 rfl B 9 _ (.string ⟨#[]⟩) 16 Try.underlying32 info_elem rfl _ (l.take k) (.string s) rfl (hown.kept ((Kept.refl [] _).drewN' kd) (fun _ _ => by simp)) _ rfl rfl rfl (by unfold maxLen; omega) (by omega) hBw ?_; intro v' w1 hown' hgrow hlie)
        have hrel := first_rel hkl HX.out HB.out hkept hown hown' hgrow
        clear hown hkept hown' hgrow hlie hR
        go_wp2
        go_roundw
        case rel => exact ⟨k + 1, by omega, by omega, by go_num, hrel.1, hrel.2⟩
        case measure => simp [intOf]; omega
      · have hst := hid (first_stop k l n hk1 hk2 (.inr hkl))
        go_wp2
        go_ret
        exact ⟨_, rfl, by rw [← hst.out]; exact hown, hkept⟩
    · have hst := hid (first_stop k l n hk1 hk2 (.inl hkn))
      go_wp2
      go_ret
      exact ⟨_, rfl, by rw [← hst.out]; exact hown, hkept⟩

end RSt
end Go.Proofs.Ytagemhmjpfldoaa
