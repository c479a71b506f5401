/- The wheel's calls, told by the timers that are armed. -/
import Derived.Test.YtkemkoiknoefdaaWheelInvC
namespace Go.Proofs.Ytkemkoiknoefdaa
open Go.RowKit Go.Maps
set_option linter.unusedVariables false
set_option linter.unusedSimpArgs false

/-- A call that wrote the blocks B alone, and new ones; B' are the blocks behind it. -/
def Step (w w' : World) (B B' : Nat → Prop) : Prop := ∃ S, Kept S w w' ∧ (∀ k ∈ S, B k ∨ w.heap.size ≤ k) ∧ ∀ k, B' k → B k ∨ w.heap.size ≤ k
theorem Step.size {w w' : World} {B B' : Nat → Prop} (h : Step w w' B B') : w.heap.size ≤ w'.heap.size := by obtain ⟨S, h1, _⟩ := h; exact h1.size
theorem Step.trans {w w1 w2 : World} {B B1 B2 : Nat → Prop} (h : Step w w1 B B1) (g : Step w1 w2 B1 B2) : Step w w2 B B2 := by
  have hs := h.size
  obtain ⟨S, h1, h2, h3⟩ := h
  obtain ⟨S', g1, g2, g3⟩ := g
  refine ⟨S ++ S', (h1.mono (by simp; intro a ha; exact .inl ha)).trans (g1.mono (by simp; intro a ha; exact .inr ha)), fun k hm => ?_, fun k hm => ?_⟩
  · rcases List.mem_append.1 hm with hm | hm
    · exact h2 k hm
    · rcases g2 k hm with h4 | h4
      · exact h3 k h4
      · exact .inr (by omega)
  · rcases g3 k hm with h4 | h4
    · exact h3 k h4
    · exact .inr (by omega)
theorem Step.still {w w1 : World} (B : Nat → Prop) (hk : Kept [] w w1) : Step w w1 B B := ⟨[], hk, by simp, fun k hk => .inl hk⟩
theorem Step.of_turned {w w' : World} {b mb : Nat} {vs vs' : Nat → Value} (h : Turned w b mb vs w' vs') : Step w w' (Wh.In b mb vs) (Wh.In b mb vs') := h
/-- All that was there when the law began stands, if the blocks are its own. -/
theorem Step.base {w0 w w' : World} {B B' : Nat → Prop} (h : Step w w' B B') (hk : Kept [] w0 w) (hB : ∀ k, B k → w0.heap.size ≤ k) : Kept [] w0 w' ∧ ∀ k, B' k → w0.heap.size ≤ k := by
  obtain ⟨S, h1, h2, h3⟩ := h
  have hs := hk.size
  refine ⟨hk.join h1 (fun i hi hlt => ?_), fun k hk' => ?_⟩
  · rcases h2 i hi with h | h
    · have := hB i h; omega
    · omega
  · rcases h3 k hk' with h | h
    · exact hB k h
    · omega
/-- The wheel at block b: its tick, how many were armed so far, the timers that are; its blocks are B. -/
def WR (w : World) (b : Nat) (B : Nat → Prop) (now n : Nat) (L : List Tm) : Prop :=
  now ≤ 1152921504606846976 ∧ n ≤ 1000000 ∧ ∃ mb cnt d sz vs sl, Wh w b mb now n cnt d sz vs sl ∧ Inv now n cnt d sz sl L ∧ B = Wh.In b mb vs
theorem WR.lt {w : World} {b now n : Nat} {B : Nat → Prop} {L : List Tm} (h : WR w b B now n L) {k : Nat} (hk : B k) : k < w.heap.size := by
  obtain ⟨_, _, mb, cnt, d, sz, vs, sl, h1, h2, rfl⟩ := h
  exact h1.in_lt k hk
theorem WR.kept {S : List Nat} {w w' : World} {b now n : Nat} {B : Nat → Prop} {L : List Tm} (h : WR w b B now n L) (hk : Kept S w w') (hS : ∀ k ∈ S, ¬ B k) : WR w' b B now n L := by
  obtain ⟨a, c, mb, cnt, d, sz, vs, sl, h1, h2, rfl⟩ := h
  exact ⟨a, c, mb, cnt, d, sz, vs, sl, h1.kept hk hS, h2, rfl⟩
theorem WR.still {w w' : World} {b now n : Nat} {B : Nat → Prop} {L : List Tm} (h : WR w b B now n L) (hk : Kept [] w w') : WR w' b B now n L := h.kept hk (by simp)
/-- Another thing's step leaves the wheel alone. -/
theorem WR.beside {w w' : World} {b now n : Nat} {B C C' : Nat → Prop} {L : List Tm} (h : WR w b B now n L) (hs : Step w w' C C') (hd : ∀ k, B k → ¬ C k) : WR w' b B now n L := by
  obtain ⟨S, h1, h2, h3⟩ := hs
  refine h.kept h1 fun k hk hb => ?_
  rcases h2 k hk with h4 | h4
  · exact hd k hb h4
  · have := h.lt hb; omega
/-- Apart they stay. -/
theorem Step.apart {w w' : World} {B B' C : Nat → Prop} (hs : Step w w' B B') (hC : ∀ k, C k → k < w.heap.size) (hd : ∀ k, B k → ¬ C k) : ∀ k, B' k → ¬ C k := by
  obtain ⟨S, h1, h2, h3⟩ := hs
  intro k hb hc
  rcases h3 k hb with h4 | h4
  · exact hd k h4 hc
  · have := hC k hc; omega
theorem WR.wf {w : World} {b now n : Nat} {B : Nat → Prop} {L : List Tm} (h : WR w b B now n L) {t : Tm} (ht : t ∈ L) : (Lit.int .i64 t.id).wf = true ∧ now < t.due ∧ t.due ≤ 1152921504606846976 := by
  obtain ⟨_, _, mb, cnt, d, sz, vs, sl, h1, h2, rfl⟩ := h
  have := h2.goodL ht
  exact ⟨this.2.2.1, h2.due t ht, this.2.2.2⟩

def WNew (w : World) (now : Nat) (e : Ending) (w' : World) : Prop := ∃ b B, e = .returned (.tuple #[.pointer (some ⟨b, 0, none⟩), .int .i64 0]) ∧ WR w' b B now 0 [] ∧ Kept [] w w' ∧ ∀ k, B k → w.heap.size ≤ k
theorem wr_new (now : Nat) (w : World) (hn : now ≤ 1152921504606846976) : Calls Try.prog 16 #[.int .u64 (now : Int)] w (WNew w now) := by
  refine (new_ok now w hn).mono ?_
  rintro e w' ⟨b, mb, rfl, h1, h2, h3, h4⟩
  refine ⟨b, _, rfl, ⟨hn, by omega, mb, _, _, _, _, _, h1, inv_new now, rfl⟩, h2, fun k hk => ?_⟩
  rcases hk with rfl | rfl | ⟨i, hi, hk⟩
  · exact h3
  · exact h4
  · cases hk
def WArm (w : World) (b : Nat) (B : Nat → Prop) (now n : Nat) (L : List Tm) (id : Int) (k : Nat) (e : Ending) (w' : World) : Prop :=
  e = .returned (.int .i64 0) ∧ ∃ B', WR w' b B' now (n + 1) (less L id ++ [⟨now + k, id, n + 1⟩]) ∧ Step w w' B B'
theorem wr_arm {w : World} {b now n : Nat} {B : Nat → Prop} {L : List Tm} (h : WR w b B now n L) (id : Int) (hw : (Lit.int .i64 id).wf = true) (k : Nat) (hk1 : 1 ≤ k) (hk2 : now + k ≤ 1152921504606846976) (hn : n < 1000000) :
    Calls Try.prog 17 #[.pointer (some ⟨b, 0, none⟩), .int .i64 id, .int .u64 (k : Int)] w (WArm w b B now n L id k) := by
  obtain ⟨a, c, mb, cnt, d, sz, vs, sl, h1, h2, rfl⟩ := h
  have hc := h2.cnt
  refine (arm_ok h1 id hw k hk1 hk2 (by omega) (by omega) (fun i hi => by have := h2.len i hi; omega)).mono ?_
  rintro e w' ⟨rfl, vs', h3, h4⟩
  exact ⟨rfl, _, ⟨a, by omega, mb, _, _, _, _, _, h3, inv_arm h2 id hw k hk1 hk2, rfl⟩, Step.of_turned h4⟩
theorem wr_arm_bad {w : World} {b now n : Nat} {B : Nat → Prop} {L : List Tm} (h : WR w b B now n L) (id k : Int) (hk0 : 0 ≤ k) (hk : k ≤ 18446744073709551615) (hb : k < 1 ∨ 1152921504606846976 < (now : Int) + k) :
    Calls Try.prog 17 #[.pointer (some ⟨b, 0, none⟩), .int .i64 id, .int .u64 k] w fun e w' => e = .returned (.int .i64 1) ∧ w = w' := by
  obtain ⟨a, c, mb, cnt, d, sz, vs, sl, h1, h2, rfl⟩ := h
  exact arm_bad h1 a id k hk0 hk hb
def WTick (w : World) (b : Nat) (B : Nat → Prop) (now n : Nat) (L : List Tm) (e : Ending) (w' : World) : Prop :=
  ∃ v B', e = .returned (.tuple #[v, .int .i64 0]) ∧ OwnL w.heap.size 3 w' v (ids (dues L (now + 1))) ∧ (∀ j, v.ownBlock = some j → ¬ B' j) ∧ WR w' b B' (now + 1) n (late L (now + 1)) ∧ Step w w' B B'
theorem wr_tick {w : World} {b now n : Nat} {B : Nat → Prop} {L : List Tm} (h : WR w b B now n L) (hn : now < 1152921504606846976) :
    Calls Try.prog 21 #[.pointer (some ⟨b, 0, none⟩)] w (WTick w b B now n L) := by
  obtain ⟨a, c, mb, cnt, d, sz, vs, sl, h1, h2, rfl⟩ := h
  refine (tick_any h1 hn (h2.ok (by omega))).mono ?_
  rintro e w' ⟨v, vs', rfl, h3, h4, h5, h6⟩
  obtain ⟨h7, h8⟩ := inv_tick h2
  rw [h7] at h3
  refine ⟨v, _, rfl, ?_, h4, ⟨by omega, c, mb, _, _, _, _, _, h5, h8, rfl⟩, Step.of_turned h6⟩
  unfold OwnL ids
  rw [List.length_map]
  exact h3
theorem wr_tick_last {w : World} {b now n : Nat} {B : Nat → Prop} {L : List Tm} (h : WR w b B now n L) (hn : 1152921504606846976 ≤ now) :
    Calls Try.prog 21 #[.pointer (some ⟨b, 0, none⟩)] w fun e w' => e = .returned (.tuple #[.slice none 0 0, .int .i64 1]) ∧ w = w' := by
  obtain ⟨a, c, mb, cnt, d, sz, vs, sl, h1, h2, rfl⟩ := h
  exact tick_last h1 hn (by omega)
end Go.Proofs.Ytkemkoiknoefdaa
