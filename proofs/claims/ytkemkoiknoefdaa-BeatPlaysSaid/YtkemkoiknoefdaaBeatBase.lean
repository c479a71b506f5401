/- The beat in memory: New, Est, Heard; what is no configuration; a nil one. -/
import Derived.Test.YtkemkoiknoefdaaBeatSet
namespace Go.Proofs.Ytkemkoiknoefdaa
open Go.RowKit
set_option linter.unusedVariables false
set_option linter.unusedSimpArgs false

theorem WR.uniq {w : World} {b now n : Nat} {B : Nat → Prop} {L : List Tm} (h : WR w b B now n L) {x t : Tm} (hx : x ∈ L) (ht : t ∈ L) (e : x.id = t.id) : x = t := by
  obtain ⟨_, _, mb, cnt, d, sz, vs, sl, h1, h2, rfl⟩ := h
  exact apart_inj h2.apart hx ht e
theorem WR.ids {w : World} {b now n : Nat} {B : Nat → Prop} {L : List Tm} (h : WR w b B now n L) : L.Pairwise fun x y => x.id ≠ y.id := by
  obtain ⟨_, _, mb, cnt, d, sz, vs, sl, h1, h2, rfl⟩ := h
  exact h2.apart
theorem WR.small {w : World} {b now n : Nat} {B : Nat → Prop} {L : List Tm} (h : WR w b B now n L) : now ≤ 1152921504606846976 := h.1
theorem Step.blk {w w' : World} {B B' : Nat → Prop} (h : Step w w' B B') {k : Nat} {o : Obj} (hk : w.heap[k]? = some o) (hB : ¬ B k) : w'.heap[k]? = some o := by
  obtain ⟨S, h1, h2, h3⟩ := h
  exact h1.blk hk (fun hm => (h2 k hm).elim hB (fun hge => by have := lt_of_blk hk; omega))
theorem Step.nb {w w' : World} {B B' : Nat → Prop} (h : Step w w' B B') {k : Nat} (hk : k < w.heap.size) (hB : ¬ B k) : ¬ B' k := fun hb => by
  obtain ⟨S, h1, h2, h3⟩ := h
  exact (h3 _ hb).elim hB (fun hge => by omega)
theorem wf_int {a : Int} (h1 : -9223372036854775808 ≤ a) (h2 : a ≤ 9223372036854775807) : (Lit.int .i64 a).wf = true := by simp [Lit.wf, IntKind.min, IntKind.max, IntKind.signed, IntKind.bits]; omega
/-- The timers: one's own beat at D (number 16); who was heard of at H. -/
structure Has (L : List Tm) (me now D : Nat) (H : Nat → Nat) : Prop where
  all : ∀ t ∈ L, (t.id = 16 ∧ t.due = D) ∨ ∃ j, j < 16 ∧ j ≠ me ∧ t.id = (j : Int) ∧ t.due = H j
  own : ∃ t ∈ L, t.id = 16
  any : ∀ j, j < 16 → now < H j → ∃ t ∈ L, t.id = (j : Int)
theorem Has.heard {L : List Tm} {me now D miss n : Nat} {H : Nat → Nat} (h : Has L me now D H) {j : Nat} (hj : j < 16) (hs : j ≠ me) : Has (less L (j : Int) ++ [⟨now + miss, (j : Int), n⟩]) me now D (upd H j (now + miss)) where
  all := fun t ht => by
    rcases List.mem_append.1 ht with ht | ht
    · obtain ⟨h1, h2⟩ := less_mem.1 ht
      rcases h.all t h1 with h3 | ⟨k, hk, hks, hki, hkd⟩
      · exact .inl h3
      · have hne : ¬ k = j := fun e => h2 (by rw [hki, e])
        exact .inr ⟨k, hk, hks, hki, by rw [upd_other _ _ hne]; exact hkd⟩
    · simp at ht; subst ht
      exact .inr ⟨j, hj, hs, rfl, by rw [upd_same]⟩
  own := by
    obtain ⟨t, ht, e⟩ := h.own
    exact ⟨t, List.mem_append.2 (.inl (less_mem.2 ⟨ht, by rw [e]; omega⟩)), e⟩
  any := fun k hk hd => by
    by_cases e : k = j
    · subst e; exact ⟨_, List.mem_append.2 (.inr (List.mem_singleton.2 rfl)), rfl⟩
    · rw [upd_other _ _ e] at hd
      obtain ⟨t, ht, hi⟩ := h.any k hk hd
      exact ⟨t, List.mem_append.2 (.inl (less_mem.2 ⟨ht, by rw [hi]; omega⟩)), hi⟩
/-- The beat at block bb: how many nodes, which is its own, how it beats and misses; its tick, how many timers it armed, when its own beat is due, till when each is heard of; its set. -/
structure BT (w : World) (bb : Nat) (C : Nat → Prop) (nn me beat miss now n D : Nat) (H : Nat → Nat) (e : Nat) : Prop where
  ex : ∃ wb B L, w.heap[bb]? = some (.cells #[.int .i64 (nn : Int), .int .i64 (me : Int), .int .u64 (beat : Int), .int .u64 (miss : Int), .pointer (some ⟨wb, 0, none⟩), .int .u16 (e : Int)] 48 (0, 0)) ∧ WR w wb B now n L ∧ ¬ B bb ∧ (∀ k, C k ↔ (k = bb ∨ B k)) ∧ Has L me now D H
  nums : nn ≤ 16 ∧ me < nn ∧ 1 ≤ beat ∧ beat ≤ 1000 ∧ 1 ≤ miss ∧ miss ≤ 1000 ∧ now < D ∧ e < 65536
  bits : ∀ j, j < 16 → e.testBit j = (decide (j = me) || decide (now < H j))
  none : H me = 0
theorem BT.lt {w : World} {bb nn me beat miss now n D e : Nat} {C : Nat → Prop} {H : Nat → Nat} (h : BT w bb C nn me beat miss now n D H e) {k : Nat} (hk : C k) : k < w.heap.size := by
  obtain ⟨wb, B, L, h1, h2, h3, h4, h5⟩ := h.ex
  rcases (h4 k).1 hk with rfl | hb
  · exact lt_of_blk h1
  · exact h2.lt hb
theorem BT.kept {S : List Nat} {w w' : World} {bb nn me beat miss now n D e : Nat} {C : Nat → Prop} {H : Nat → Nat} (h : BT w bb C nn me beat miss now n D H e) (hk : Kept S w w') (hS : ∀ k ∈ S, ¬ C k) : BT w' bb C nn me beat miss now n D H e := by
  obtain ⟨wb, B, L, h1, h2, h3, h4, h5⟩ := h.ex
  exact ⟨⟨wb, B, L, hk.blk h1 (fun hm => hS _ hm ((h4 _).2 (.inl rfl))), h2.kept hk (fun k hm hb => hS k hm ((h4 k).2 (.inr hb))), h3, h4, h5⟩, h.nums, h.bits, h.none⟩
theorem BT.still {w w' : World} {bb nn me beat miss now n D e : Nat} {C : Nat → Prop} {H : Nat → Nat} (h : BT w bb C nn me beat miss now n D H e) (hk : Kept [] w w') : BT w' bb C nn me beat miss now n D H e := h.kept hk (by simp)
/-- What a configuration must be. -/
def okForm (c0 c1 c2 c3 c4 c5 : Int) : Prop := (1 ≤ c0 ∧ c0 ≤ 16) ∧ (1 ≤ c1 ∧ c1 < c2) ∧ (c2 ≤ 1000) ∧ (1 ≤ c3 ∧ c3 ≤ 32) ∧ (1 ≤ c4 ∧ c4 ≤ 256) ∧ (1 ≤ c5 ∧ c5 ≤ 256)
def cfg (c0 c1 c2 c3 c4 c5 : Int) : Value := .agg #[.int .i64 c0, .int .i64 c1, .int .i64 c2, .int .i64 c3, .int .i64 c4, .int .i64 c5]
def cfgO (c0 c1 c2 c3 c4 c5 : Int) : Obj := .cells #[.int .i64 c0, .int .i64 c1, .int .i64 c2, .int .i64 c3, .int .i64 c4, .int .i64 c5] 23
set_option maxRecDepth 100000 in
set_option maxHeartbeats 1000000 in
theorem form_ok (c0 c1 c2 c3 c4 c5 : Int) (h : okForm c0 c1 c2 c3 c4 c5) (w : World) : Calls Try.prog 10 #[cfg c0 c1 c2 c3 c4 c5] w fun e w' => e = .returned (.bool true) ∧ Kept [] w w' := by
  obtain ⟨⟨h1, h2⟩, ⟨h3, h4⟩, h5, ⟨h6, h7⟩, ⟨h8, h9⟩, ⟨h10, h11⟩⟩ := h
  unfold cfg
  go_enter Try.func10, Try.ntmps10
  go_wp2
  go_ret
  exact ⟨rfl, kept_new _⟩
set_option maxRecDepth 100000 in
set_option maxHeartbeats 4000000 in
theorem form_bad (c0 c1 c2 c3 c4 c5 : Int) (h : ¬ okForm c0 c1 c2 c3 c4 c5) (w : World) : Calls Try.prog 10 #[cfg c0 c1 c2 c3 c4 c5] w fun e w' => e = .returned (.bool false) ∧ Kept [] w w' := by
  unfold cfg
  by_cases h1 : 1 ≤ c0
  · by_cases h2 : c0 ≤ 16
    · by_cases h3 : 1 ≤ c1
      · by_cases h4 : c1 < c2
        · by_cases h5 : c2 ≤ 1000
          · by_cases h6 : 1 ≤ c3
            · by_cases h7 : c3 ≤ 32
              · by_cases h8 : 1 ≤ c4
                · by_cases h9 : c4 ≤ 256
                  · by_cases h10 : 1 ≤ c5
                    · have h11 : ¬ c5 ≤ 256 := fun h11 => h ⟨⟨h1, h2⟩, ⟨h3, h4⟩, h5, ⟨h6, h7⟩, ⟨h8, h9⟩, ⟨h10, h11⟩⟩
                      clear h
                      go_enter Try.func10, Try.ntmps10
                      go_wp2
                      go_ret
                      exact ⟨rfl, kept_new _⟩
                    · clear h
                      go_enter Try.func10, Try.ntmps10
                      go_wp2
                      go_ret
                      exact ⟨rfl, kept_new _⟩
                  · clear h
                    go_enter Try.func10, Try.ntmps10
                    go_wp2
                    go_ret
                    exact ⟨rfl, kept_new _⟩
                · clear h
                  go_enter Try.func10, Try.ntmps10
                  go_wp2
                  go_ret
                  exact ⟨rfl, kept_new _⟩
              · clear h
                go_enter Try.func10, Try.ntmps10
                go_wp2
                go_ret
                exact ⟨rfl, kept_new _⟩
            · clear h
              go_enter Try.func10, Try.ntmps10
              go_wp2
              go_ret
              exact ⟨rfl, kept_new _⟩
          · clear h
            go_enter Try.func10, Try.ntmps10
            go_wp2
            go_ret
            exact ⟨rfl, kept_new _⟩
        · clear h
          go_enter Try.func10, Try.ntmps10
          go_wp2
          go_ret
          exact ⟨rfl, kept_new _⟩
      · clear h
        go_enter Try.func10, Try.ntmps10
        go_wp2
        go_ret
        exact ⟨rfl, kept_new _⟩
    · clear h
      go_enter Try.func10, Try.ntmps10
      go_wp2
      go_ret
      exact ⟨rfl, kept_new _⟩
  · clear h
    go_enter Try.func10, Try.ntmps10
    go_wp2
    go_ret
    exact ⟨rfl, kept_new _⟩
theorem est_any {w : World} {bb nn me beat miss now n D e : Nat} {C : Nat → Prop} {H : Nat → Nat} (h : BT w bb C nn me beat miss now n D H e) :
    Calls Try.prog 11 #[.pointer (some ⟨bb, 0, none⟩)] w fun r w' => r = .returned (.int .u16 (e : Int)) ∧ w = w' := by
  obtain ⟨wb, B, L, h1, _⟩ := h.ex
  have c5 : w.cell? ⟨bb, 5, none⟩ = some (.int .u16 (e : Int)) := (cell_of h1).trans rfl
  clear h h1
  go_enter Try.func11, Try.ntmps11
  go_wp2
  go_ret
  exact ⟨rfl, rfl⟩
theorem est_nil (w : World) : Calls Try.prog 11 #[.pointer none] w fun r w' => r = .returned (.int .u16 0) ∧ w = w' := by
  go_enter Try.func11, Try.ntmps11
  go_wp2
  go_ret
  exact ⟨rfl, rfl⟩
theorem tickb_nil (w : World) : Calls Try.prog 14 #[.pointer none] w fun r w' => r = .returned (.bool false) ∧ w = w' := by
  go_enter Try.func14, Try.ntmps14
  go_wp2
  go_ret
  exact ⟨rfl, rfl⟩
theorem heard_nil (i : Int) (w : World) : Calls Try.prog 15 #[.pointer none, .int .i64 i] w fun r w' => r = .returned (.int .i64 6) ∧ w = w' := by
  go_enter Try.func15, Try.ntmps15
  go_wp2
  go_ret
  exact ⟨rfl, rfl⟩
theorem heard_bad {w : World} {bb nn me beat miss now n D e : Nat} {C : Nat → Prop} {H : Nat → Nat} (h : BT w bb C nn me beat miss now n D H e) (i : Int) (hi : i < 0 ∨ (nn : Int) ≤ i ∨ i = (me : Int)) :
    Calls Try.prog 15 #[.pointer (some ⟨bb, 0, none⟩), .int .i64 i] w fun r w' => r = .returned (.int .i64 1) ∧ w = w' := by
  obtain ⟨wb, B, L, h1, _⟩ := h.ex
  have c0 : w.cell? ⟨bb, 0, none⟩ = some (.int .i64 (nn : Int)) := (cell_of h1).trans rfl
  have c1 : w.cell? ⟨bb, 1, none⟩ = some (.int .i64 (me : Int)) := (cell_of h1).trans rfl
  clear h h1
  by_cases h1 : i < 0
  · go_enter Try.func15, Try.ntmps15
    go_wp2
    go_ret
    exact ⟨rfl, rfl⟩
  · by_cases h2 : (nn : Int) ≤ i
    · clear hi
      go_enter Try.func15, Try.ntmps15
      go_wp2
      go_ret
      exact ⟨rfl, rfl⟩
    · have h3 : i = (me : Int) := by omega
      subst h3
      have hn : ¬ (nn : Int) ≤ (me : Int) := h2
      have hn2 : ¬ nn ≤ me := by omega
      clear hi
      go_enter Try.func15, Try.ntmps15
      go_wp2
      go_ret
      exact ⟨rfl, rfl⟩
end Go.Proofs.Ytkemkoiknoefdaa
