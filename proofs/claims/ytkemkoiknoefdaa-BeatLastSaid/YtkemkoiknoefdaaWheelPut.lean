/- The wheel's 'put': a timer into its slot. -/
import Derived.Test.YtkemkoiknoefdaaWheelOps
namespace Go.Proofs.Ytkemkoiknoefdaa
open Go.RowKit Go.Maps
set_option linter.unusedVariables false
set_option linter.unusedSimpArgs false

def upd {α : Type} (f : Nat → α) (p : Nat) (x : α) : Nat → α := fun i => if i = p then x else f i
theorem upd_same {α : Type} (f : Nat → α) (p : Nat) (x : α) : upd f p x p = x := by simp [upd]
theorem upd_other {α : Type} (f : Nat → α) {p i : Nat} (x : α) (h : ¬ i = p) : upd f p x i = f i := by simp [upd, h]
theorem mem_own {v : Value} {k : Nat} : k ∈ v.ownBlock.toList ↔ v.ownBlock = some k := by cases v.ownBlock <;> simp [eq_comm]
theorem kept_new1 {w : World} (o : Obj) : Kept [] w (w.drew.alloc o) := ⟨rfl, rfl, rfl, by simp, fun k hk _ => Below.heap_alloc _ _ _ hk⟩
theorem cells_new (w : World) (c : Array Value) (t : TypeId) (l : List Value) (hl : c.toList = l) : ∀ (j : Nat) (u : Value), l[j]? = some u → (w.alloc (.cells c t)).cell? ((⟨w.heap.size, 0, none⟩ : Addr).add j) = some u := by
  intro j u h
  subst hl
  rw [Addr.add_lit, Nat.zero_add, cell_of (blk_alloc_new w _)]
  simpa using h
theorem cells_new_at (w : World) (g : Nat) (hg : g = w.heap.size) (c : Array Value) (t : TypeId) (l : List Value) (hl : c.toList = l) : ∀ (j : Nat) (u : Value), l[j]? = some u → (w.alloc (.cells c t)).cell? ((⟨g, 0, none⟩ : Addr).add j) = some u := by
  subst hg
  exact cells_new w c t l hl
/-- Where a timer lies: in the slot of the first turn that it shares with now; else far (the 81st list). -/
def place (now due : Nat) : Nat :=
  if due / 16 = now / 16 then due % 16 else if due / 256 = now / 256 then 16 + due / 16 % 16 else if due / 4096 = now / 4096 then 32 + due / 256 % 16
  else if due / 65536 = now / 65536 then 48 + due / 4096 % 16 else if due / 1048576 = now / 1048576 then 64 + due / 65536 % 16 else 80
theorem place_lt (now due : Nat) : place now due < 81 := by
  unfold place
  repeat' split
  all_goals omega
theorem Wh.blk_of {w : World} {b mb now n cnt sz : Nat} {d : Int → Nat} {vs : Nat → Value} {sl : Nat → List Tm} (h : Wh w b mb now n cnt d sz vs sl) : ∃ cs : Array Value, w.heap[b]? = some (.cells cs 58 (0, 0)) ∧ cs.size = 84 ∧ cs[0]? = some (.int .u64 (now : Int)) ∧ cs[1]? = some (.int .u64 (n : Int)) ∧ cs[2]? = some (.map (some mb)) ∧ ∀ i, i < 81 → cs[3 + i]? = some (vs i) := h.blk
theorem Wh.grown {w : World} {b mb now n cnt sz : Nat} {d : Int → Nat} {vs : Nat → Value} {sl : Nat → List Tm} (h : Wh w b mb now n cnt d sz vs sl) {p : Nat} (hp : p < 81) {W w' : World} (hg : W.grownBy w' (vs p).ownBlock) (hW : Kept [] w W) : Kept (vs p).ownBlock.toList w w' ∧ w'.cell? ⟨b, 3 + p, none⟩ = some (vs p) ∧ w'.frozen? ⟨b, 3 + p, none⟩ = false := by
  have hk : Kept (vs p).ownBlock.toList w w' := (hW.mono (by simp)).grown hg (fun k hk _ => mem_own.2 hk)
  obtain ⟨cs, h0, h1, h2, h3, h4, h5⟩ := h.blk
  have hb := hk.blk h0 (fun hm => (h.nb p hp).1 (mem_own.1 hm))
  exact ⟨hk, (cell_of hb).trans (h5 p hp), frozen_of hb⟩
/-- An append onto one of the lists, and its store. -/
theorem Wh.put {w : World} {b mb now n cnt sz : Nat} {d : Int → Nat} {vs : Nat → Value} {sl : Nat → List Tm} (h : Wh w b mb now n cnt d sz vs sl) {p : Nat} (hp : p < 81) {W w' : World} (hg : W.grownBy w' (vs p).ownBlock) (hW : Kept [] w W) (v' : Value) (t : Tm) (hO : Own 0 61 3 w' v' ((sl p).length + 1) (tms (sl p) ++ tmRow t))
    (hT : ∀ k, v'.ownBlock = some k → (vs p).ownBlock = some k ∨ W.heap.size ≤ k) :
    Wh (w'.setCell ⟨b, 3 + p, none⟩ v') b mb now n cnt d sz (upd vs p v') (upd sl p (sl p ++ [t])) := by
  obtain ⟨hk, _, _⟩ := h.grown hp hg hW
  obtain ⟨cs, h0, h1, h2, h3, h4, h5⟩ := h.blk
  have hb := hk.blk h0 (fun hm => (h.nb p hp).1 (mem_own.1 hm))
  have hset : Kept [b] w' (w'.setCell ⟨b, 3 + p, none⟩ v') := (Kept.refl _ _).setCell (by simp) _
  have hlb := lt_of_blk h0
  have hlm := h.map.lt
  have hWs := hW.size
  have hvb : v'.ownBlock ≠ some b := fun e => by
    rcases hT _ e with h6 | h6
    · exact (h.nb p hp).1 h6
    · omega
  have hvm : v'.ownBlock ≠ some mb := fun e => by
    rcases hT _ e with h6 | h6
    · exact (h.nb p hp).2 h6
    · omega
  have hvo : ∀ i, i < 81 → i ≠ p → ∀ k, v'.ownBlock = some k → (vs i).ownBlock ≠ some k := fun i hi hne k e e2 => by
    rcases hT _ e with h6 | h6
    · exact h.ap p i hp hi (fun x => hne x.symm) k h6 e2
    · have := ((h.own i hi).lt k e2).2; omega
  refine ⟨⟨_, blk_set hb v', by simp [h1], by rw [Array.getElem?_setIfInBounds, if_neg (by omega)]; exact h2, by rw [Array.getElem?_setIfInBounds, if_neg (by omega)]; exact h3, by rw [Array.getElem?_setIfInBounds, if_neg (by omega)]; exact h4, fun i hi => ?_⟩, ?_, fun i hi => ?_, h.bm, fun i hi => ?_, fun i j hi hj hij k hk1 => ?_⟩
  · rw [Array.getElem?_setIfInBounds]
    by_cases e : i = p
    · subst e; rw [if_pos rfl, if_pos (by omega), upd_same]
    · rw [if_neg (by omega), upd_other _ _ e]; exact h5 i hi
  · exact (h.map.kept hk (fun hm => (h.nb p hp).2 (mem_own.1 hm))).kept hset (by simp; exact fun e => h.bm e.symm)
  · by_cases e : i = p
    · subst e
      rw [upd_same, upd_same, List.length_append, tms_append]
      simp only [tms, List.append_nil]
      exact hO.kept hset (fun k hk hm => by simp at hm; subst hm; exact hvb hk)
    · rw [upd_other _ _ e, upd_other _ _ e]
      exact ((h.own i hi).kept hk (fun k hk1 hm => h.ap i p hi hp e k hk1 (mem_own.1 hm))).kept hset (fun k hk1 hm => by simp at hm; subst hm; exact (h.nb i hi).1 hk1)
  · by_cases e : i = p
    · subst e; rw [upd_same]; exact ⟨hvb, hvm⟩
    · rw [upd_other _ _ e]; exact h.nb i hi
  · by_cases e : i = p
    · subst e
      rw [upd_same] at hk1
      rw [upd_other _ _ (fun x => hij x.symm)]
      exact hvo j hj (fun x => hij x.symm) k hk1
    · rw [upd_other _ _ e] at hk1
      by_cases e2 : j = p
      · subst e2
        rw [upd_same]
        exact fun x => hvo i hi e k x hk1
      · rw [upd_other _ _ e2]
        exact h.ap i j hi hj hij k hk1
/-- What a call did to a wheel: its blocks alone, and new ones. -/
def Turned (w : World) (b mb : Nat) (vs : Nat → Value) (w' : World) (vs' : Nat → Value) : Prop :=
  ∃ S, Kept S w w' ∧ (∀ k ∈ S, Wh.In b mb vs k ∨ w.heap.size ≤ k) ∧ ∀ k, Wh.In b mb vs' k → Wh.In b mb vs k ∨ w.heap.size ≤ k
def PutPost (w : World) (b mb now n cnt : Nat) (d : Int → Nat) (sz : Nat) (vs : Nat → Value) (sl : Nat → List Tm) (t : Tm) (e : Ending) (w' : World) : Prop :=
  (∃ v, e = .returned v) ∧ ∃ vs', Wh w' b mb now n cnt d sz vs' (upd sl (place now t.due) (sl (place now t.due) ++ [t])) ∧ Turned w b mb vs w' vs'
theorem Wh.put_turned {w : World} {b mb now n cnt sz : Nat} {d : Int → Nat} {vs : Nat → Value} {sl : Nat → List Tm} (h : Wh w b mb now n cnt d sz vs sl) {p : Nat} (hp : p < 81) {w0 W w' : World} (h0 : Kept [] w0 w) (hg : W.grownBy w' (vs p).ownBlock) (hW : Kept [] w W) (v' : Value) (hT : ∀ k, v'.ownBlock = some k → (vs p).ownBlock = some k ∨ W.heap.size ≤ k) :
    Turned w0 b mb vs (w'.setCell ⟨b, 3 + p, none⟩ v') (upd vs p v') := by
  obtain ⟨hk, _, _⟩ := h.grown hp hg hW
  have hs := h0.size
  have hWs := hW.size
  refine ⟨b :: (vs p).ownBlock.toList, (h0.mono (by simp)).trans ((hk.mono (by simp; intro a ha; exact .inr ha)).setCell (by simp) _), fun k hm => ?_, fun k hm => ?_⟩
  · rcases List.mem_cons.1 hm with rfl | hm
    · exact .inl (.inl rfl)
    · exact .inl (.inr (.inr ⟨p, hp, mem_own.1 hm⟩))
  · rcases hm with hm | hm | ⟨i, hi, hm⟩
    · exact .inl (.inl hm)
    · exact .inl (.inr (.inl hm))
    · by_cases e : i = p
      · subst e
        rw [upd_same] at hm
        rcases hT k hm with h6 | h6
        · exact .inl (.inr (.inr ⟨i, hi, h6⟩))
        · exact .inr (by omega)
      · rw [upd_other _ _ e] at hm
        exact .inl (.inr (.inr ⟨i, hi, hm⟩))

set_option maxRecDepth 100000 in
set_option maxHeartbeats 4000000 in
theorem put_any {w : World} {b mb now n cnt sz : Nat} {d : Int → Nat} {vs : Nat → Value} {sl : Nat → List Tm} (h : Wh w b mb now n cnt d sz vs sl) (t : Tm) (hd : t.due ≤ 2305843009213693952) (hn : now ≤ 1152921504606846976) (hl : ∀ i, i < 81 → (sl i).length ≤ 100000000) :
    Calls Try.prog 23 #[.pointer (some ⟨b, 0, none⟩), .agg #[.int .u64 (t.due : Int), .int .i64 t.id, .int .u64 (t.n : Int)]] w (PutPost w b mb now n cnt d sz vs sl t) := by
  have hal := kept_new (w := w) (.cells #[.int .u64 (t.due : Int), .int .i64 t.id, .int .u64 (t.n : Int)] 61)
  have h1 := h.still hal
  have c0 := h1.c0
  have H1 := hid h1
  have HAL := hid hal
  have HL := hid hl
  clear h h1 hal hl
  go_enter Try.func23, Try.ntmps23
  go_wp2
  go_loopw [6] (fun iv wr => ∃ k kd : Nat, k ≤ 5 ∧ (0 < k → ¬ t.due / 16 = now / 16) ∧ (1 < k → ¬ t.due / 256 = now / 256) ∧ (2 < k → ¬ t.due / 4096 = now / 4096) ∧ (3 < k → ¬ t.due / 65536 = now / 65536) ∧ (4 < k → ¬ t.due / 1048576 = now / 1048576) ∧ iv = .int .i64 (k : Int) ∧ wr = (w.alloc (.cells #[.int .u64 (t.due : Int), .int .i64 t.id, .int .u64 (t.n : Int)] 61)).drewN kd) (fun iv _ => 5 - (intOf iv).toNat)
  case atStart => exact ⟨0, 0, by omega, by omega, by omega, by omega, by omega, by omega, rfl, rfl⟩
  case round =>
    obtain ⟨k, kd, hk, q0, q1, q2, q3, q4, rfl, rfl⟩ := hrel
    have hk5 : k = 0 ∨ k = 1 ∨ k = 2 ∨ k = 3 ∨ k = 4 ∨ k = 5 := by omega
    rcases hk5 with rfl | rfl | rfl | rfl | rfl | rfl
    · by_cases he : t.due / 16 = now / 16
      · have hei : ((t.due : Int) / 16 == (now : Int) / 16) = true := by simp; omega
        have hpl : place now t.due = t.due % 16 := by unfold place; rw [if_pos he]
        have hp : t.due % 16 < 81 := by omega
        have hoff : 3 + t.due % 16 = 3 + (t.due % 16) := by omega
        have hc := H1.out.cs (t.due % 16) hp
        have hfz := H1.out.fr (3 + t.due % 16)
        rw [← hoff] at hc
        have hc2 := fun m => (H1.out.still ⟨rfl, rfl, rfl, by simp, fun k hk _ => Below.heap_alloc _ _ _ hk⟩ : Wh (((w.alloc (.cells #[.int .u64 (t.due : Int), .int .i64 t.id, .int .u64 (t.n : Int)] 61)).drewN m).alloc (.cells #[.int .u64 (t.due : Int), .int .i64 t.id, .int .u64 (t.n : Int)] 61)) b mb now n cnt d sz vs sl).cs (t.due % 16) hp
        rw [← hoff] at hc2
        have hc3 := (H1.out.still (kept_new (.cells #[.int .u64 (t.due : Int), .int .i64 t.id, .int .u64 (t.n : Int)] 61))).cs (t.due % 16) hp
        rw [← hoff] at hc3
        have hlen := HL.out (t.due % 16) hp
        have HP := hid hp
        have HPL := hid hpl
        have HOFF := hid hoff
        clear hp hpl hoff
        go_wp2
        go_quiet (fail)
        go_wp2
        go_quiet (fail)
        go_wp2
        go_region_law (refine step_append_Own rfl (.tmp 39) (.tmp 41) 54 rfl 0 61 (.agg #[.int .u64 0, .int .i64 0, .int .u64 0]) 3 24 Try.underlying54 (by kernel_rfl) rfl (by decide) (vs (t.due % 16)) (sl (t.due % 16)).length (tms (sl (t.due % 16))) (by simp [Act.eval, Act.put]) (by exact (H1.out.own (t.due % 16) HP.out).kept (S := []) ⟨rfl, rfl, rfl, by simp, fun k hk _ => Below.heap_alloc _ _ _ hk⟩ (not_in_nil _)) ⟨w.heap.size + 1, 0, none⟩ 1 1 (tmRow t) (by simp [Act.eval, Act.put]) rfl (by exact cells_new_at (w.alloc (.cells #[.int .u64 (t.due : Int), .int .i64 t.id, .int .u64 (t.n : Int)] 61)) _ (by simp) _ _ _ rfl) (by simp [tmRow, Value.oneCell']) (by unfold maxLen; omega) (by omega) (by simp) ?_; intro v' w3 hO hG hT; obtain ⟨hgk, hgc, hgf⟩ := H1.out.grown HP.out hG ⟨rfl, rfl, rfl, by simp, fun k hk _ => Below.heap_alloc _ _ _ hk⟩; (try rw [← HOFF.out] at hgc hgf); have HW := hid (H1.out.put HP.out hG ⟨rfl, rfl, rfl, by simp, fun k hk _ => Below.heap_alloc _ _ _ hk⟩ v' t hO hT); have HTU := hid (H1.out.put_turned HP.out HAL.out hG ⟨rfl, rfl, rfl, by simp, fun k hk _ => Below.heap_alloc _ _ _ hk⟩ v' hT); (try rw [← HOFF.out] at HW HTU); obtain ⟨xa, xc, hxv, _⟩ := hO.form; clear hgk hO hG hT; subst hxv)
        all_goals
          go_wp2
          try simp only [Exit.inBlock, Exit.then]
          refine bodyPost_ret (results_none rfl _ _ _) rfl ?_
          exact ⟨⟨_, rfl⟩, _, by rw [HPL.out]; exact HW.out, HTU.out⟩
      · have hei : ((t.due : Int) / 16 == (now : Int) / 16) = false := by simp; omega
        go_wp2
        go_quiet (fail)
        go_wp2
        go_roundw
        case rel => refine ⟨1, _, by omega, ?_, ?_, ?_, ?_, ?_, rfl, rfl⟩ <;> omega
        case measure => simp [intOf]
    · have q0 := q0 (by omega)
      by_cases he : t.due / 256 = now / 256
      · have hei : ((t.due : Int) / 256 == (now : Int) / 256) = true := by simp; omega
        have hpl : place now t.due = 16 + t.due / 16 % 16 := by unfold place; rw [if_neg q0, if_pos he]
        have hp : 16 + t.due / 16 % 16 < 81 := by omega
        have hoff : 19 + t.due / 16 % 16 = 3 + (16 + t.due / 16 % 16) := by omega
        have hc := H1.out.cs (16 + t.due / 16 % 16) hp
        have hfz := H1.out.fr (19 + t.due / 16 % 16)
        rw [← hoff] at hc
        have hc2 := fun m => (H1.out.still ⟨rfl, rfl, rfl, by simp, fun k hk _ => Below.heap_alloc _ _ _ hk⟩ : Wh (((w.alloc (.cells #[.int .u64 (t.due : Int), .int .i64 t.id, .int .u64 (t.n : Int)] 61)).drewN m).alloc (.cells #[.int .u64 (t.due : Int), .int .i64 t.id, .int .u64 (t.n : Int)] 61)) b mb now n cnt d sz vs sl).cs (16 + t.due / 16 % 16) hp
        rw [← hoff] at hc2
        have hc3 := (H1.out.still (kept_new (.cells #[.int .u64 (t.due : Int), .int .i64 t.id, .int .u64 (t.n : Int)] 61))).cs (16 + t.due / 16 % 16) hp
        rw [← hoff] at hc3
        have hlen := HL.out (16 + t.due / 16 % 16) hp
        have HP := hid hp
        have HPL := hid hpl
        have HOFF := hid hoff
        clear hp hpl hoff
        go_wp2
        go_quiet (fail)
        go_wp2
        go_quiet (fail)
        go_wp2
        go_region_law (refine step_append_Own rfl (.tmp 39) (.tmp 41) 54 rfl 0 61 (.agg #[.int .u64 0, .int .i64 0, .int .u64 0]) 3 24 Try.underlying54 (by kernel_rfl) rfl (by decide) (vs (16 + t.due / 16 % 16)) (sl (16 + t.due / 16 % 16)).length (tms (sl (16 + t.due / 16 % 16))) (by simp [Act.eval, Act.put]) (by exact (H1.out.own (16 + t.due / 16 % 16) HP.out).kept (S := []) ⟨rfl, rfl, rfl, by simp, fun k hk _ => Below.heap_alloc _ _ _ hk⟩ (not_in_nil _)) ⟨w.heap.size + 1, 0, none⟩ 1 1 (tmRow t) (by simp [Act.eval, Act.put]) rfl (by exact cells_new_at (w.alloc (.cells #[.int .u64 (t.due : Int), .int .i64 t.id, .int .u64 (t.n : Int)] 61)) _ (by simp) _ _ _ rfl) (by simp [tmRow, Value.oneCell']) (by unfold maxLen; omega) (by omega) (by simp) ?_; intro v' w3 hO hG hT; obtain ⟨hgk, hgc, hgf⟩ := H1.out.grown HP.out hG ⟨rfl, rfl, rfl, by simp, fun k hk _ => Below.heap_alloc _ _ _ hk⟩; (try rw [← HOFF.out] at hgc hgf); have HW := hid (H1.out.put HP.out hG ⟨rfl, rfl, rfl, by simp, fun k hk _ => Below.heap_alloc _ _ _ hk⟩ v' t hO hT); have HTU := hid (H1.out.put_turned HP.out HAL.out hG ⟨rfl, rfl, rfl, by simp, fun k hk _ => Below.heap_alloc _ _ _ hk⟩ v' hT); (try rw [← HOFF.out] at HW HTU); obtain ⟨xa, xc, hxv, _⟩ := hO.form; clear hgk hO hG hT; subst hxv)
        all_goals
          go_wp2
          try simp only [Exit.inBlock, Exit.then]
          refine bodyPost_ret (results_none rfl _ _ _) rfl ?_
          exact ⟨⟨_, rfl⟩, _, by rw [HPL.out]; exact HW.out, HTU.out⟩
      · have hei : ((t.due : Int) / 256 == (now : Int) / 256) = false := by simp; omega
        go_wp2
        go_quiet (fail)
        go_wp2
        go_roundw
        case rel => refine ⟨2, _, by omega, ?_, ?_, ?_, ?_, ?_, rfl, rfl⟩ <;> omega
        case measure => simp [intOf]
    · have q0 := q0 (by omega)
      have q1 := q1 (by omega)
      by_cases he : t.due / 4096 = now / 4096
      · have hei : ((t.due : Int) / 4096 == (now : Int) / 4096) = true := by simp; omega
        have hpl : place now t.due = 32 + t.due / 256 % 16 := by unfold place; rw [if_neg q0, if_neg q1, if_pos he]
        have hp : 32 + t.due / 256 % 16 < 81 := by omega
        have hoff : 35 + t.due / 256 % 16 = 3 + (32 + t.due / 256 % 16) := by omega
        have hc := H1.out.cs (32 + t.due / 256 % 16) hp
        have hfz := H1.out.fr (35 + t.due / 256 % 16)
        rw [← hoff] at hc
        have hc2 := fun m => (H1.out.still ⟨rfl, rfl, rfl, by simp, fun k hk _ => Below.heap_alloc _ _ _ hk⟩ : Wh (((w.alloc (.cells #[.int .u64 (t.due : Int), .int .i64 t.id, .int .u64 (t.n : Int)] 61)).drewN m).alloc (.cells #[.int .u64 (t.due : Int), .int .i64 t.id, .int .u64 (t.n : Int)] 61)) b mb now n cnt d sz vs sl).cs (32 + t.due / 256 % 16) hp
        rw [← hoff] at hc2
        have hc3 := (H1.out.still (kept_new (.cells #[.int .u64 (t.due : Int), .int .i64 t.id, .int .u64 (t.n : Int)] 61))).cs (32 + t.due / 256 % 16) hp
        rw [← hoff] at hc3
        have hlen := HL.out (32 + t.due / 256 % 16) hp
        have HP := hid hp
        have HPL := hid hpl
        have HOFF := hid hoff
        clear hp hpl hoff
        go_wp2
        go_quiet (fail)
        go_wp2
        go_quiet (fail)
        go_wp2
        go_region_law (refine step_append_Own rfl (.tmp 39) (.tmp 41) 54 rfl 0 61 (.agg #[.int .u64 0, .int .i64 0, .int .u64 0]) 3 24 Try.underlying54 (by kernel_rfl) rfl (by decide) (vs (32 + t.due / 256 % 16)) (sl (32 + t.due / 256 % 16)).length (tms (sl (32 + t.due / 256 % 16))) (by simp [Act.eval, Act.put]) (by exact (H1.out.own (32 + t.due / 256 % 16) HP.out).kept (S := []) ⟨rfl, rfl, rfl, by simp, fun k hk _ => Below.heap_alloc _ _ _ hk⟩ (not_in_nil _)) ⟨w.heap.size + 1, 0, none⟩ 1 1 (tmRow t) (by simp [Act.eval, Act.put]) rfl (by exact cells_new_at (w.alloc (.cells #[.int .u64 (t.due : Int), .int .i64 t.id, .int .u64 (t.n : Int)] 61)) _ (by simp) _ _ _ rfl) (by simp [tmRow, Value.oneCell']) (by unfold maxLen; omega) (by omega) (by simp) ?_; intro v' w3 hO hG hT; obtain ⟨hgk, hgc, hgf⟩ := H1.out.grown HP.out hG ⟨rfl, rfl, rfl, by simp, fun k hk _ => Below.heap_alloc _ _ _ hk⟩; (try rw [← HOFF.out] at hgc hgf); have HW := hid (H1.out.put HP.out hG ⟨rfl, rfl, rfl, by simp, fun k hk _ => Below.heap_alloc _ _ _ hk⟩ v' t hO hT); have HTU := hid (H1.out.put_turned HP.out HAL.out hG ⟨rfl, rfl, rfl, by simp, fun k hk _ => Below.heap_alloc _ _ _ hk⟩ v' hT); (try rw [← HOFF.out] at HW HTU); obtain ⟨xa, xc, hxv, _⟩ := hO.form; clear hgk hO hG hT; subst hxv)
        all_goals
          go_wp2
          try simp only [Exit.inBlock, Exit.then]
          refine bodyPost_ret (results_none rfl _ _ _) rfl ?_
          exact ⟨⟨_, rfl⟩, _, by rw [HPL.out]; exact HW.out, HTU.out⟩
      · have hei : ((t.due : Int) / 4096 == (now : Int) / 4096) = false := by simp; omega
        go_wp2
        go_quiet (fail)
        go_wp2
        go_roundw
        case rel => refine ⟨3, _, by omega, ?_, ?_, ?_, ?_, ?_, rfl, rfl⟩ <;> omega
        case measure => simp [intOf]
    · have q0 := q0 (by omega)
      have q1 := q1 (by omega)
      have q2 := q2 (by omega)
      by_cases he : t.due / 65536 = now / 65536
      · have hei : ((t.due : Int) / 65536 == (now : Int) / 65536) = true := by simp; omega
        have hpl : place now t.due = 48 + t.due / 4096 % 16 := by unfold place; rw [if_neg q0, if_neg q1, if_neg q2, if_pos he]
        have hp : 48 + t.due / 4096 % 16 < 81 := by omega
        have hoff : 51 + t.due / 4096 % 16 = 3 + (48 + t.due / 4096 % 16) := by omega
        have hc := H1.out.cs (48 + t.due / 4096 % 16) hp
        have hfz := H1.out.fr (51 + t.due / 4096 % 16)
        rw [← hoff] at hc
        have hc2 := fun m => (H1.out.still ⟨rfl, rfl, rfl, by simp, fun k hk _ => Below.heap_alloc _ _ _ hk⟩ : Wh (((w.alloc (.cells #[.int .u64 (t.due : Int), .int .i64 t.id, .int .u64 (t.n : Int)] 61)).drewN m).alloc (.cells #[.int .u64 (t.due : Int), .int .i64 t.id, .int .u64 (t.n : Int)] 61)) b mb now n cnt d sz vs sl).cs (48 + t.due / 4096 % 16) hp
        rw [← hoff] at hc2
        have hc3 := (H1.out.still (kept_new (.cells #[.int .u64 (t.due : Int), .int .i64 t.id, .int .u64 (t.n : Int)] 61))).cs (48 + t.due / 4096 % 16) hp
        rw [← hoff] at hc3
        have hlen := HL.out (48 + t.due / 4096 % 16) hp
        have HP := hid hp
        have HPL := hid hpl
        have HOFF := hid hoff
        clear hp hpl hoff
        go_wp2
        go_quiet (fail)
        go_wp2
        go_quiet (fail)
        go_wp2
        go_region_law (refine step_append_Own rfl (.tmp 39) (.tmp 41) 54 rfl 0 61 (.agg #[.int .u64 0, .int .i64 0, .int .u64 0]) 3 24 Try.underlying54 (by kernel_rfl) rfl (by decide) (vs (48 + t.due / 4096 % 16)) (sl (48 + t.due / 4096 % 16)).length (tms (sl (48 + t.due / 4096 % 16))) (by simp [Act.eval, Act.put]) (by exact (H1.out.own (48 + t.due / 4096 % 16) HP.out).kept (S := []) ⟨rfl, rfl, rfl, by simp, fun k hk _ => Below.heap_alloc _ _ _ hk⟩ (not_in_nil _)) ⟨w.heap.size + 1, 0, none⟩ 1 1 (tmRow t) (by simp [Act.eval, Act.put]) rfl (by exact cells_new_at (w.alloc (.cells #[.int .u64 (t.due : Int), .int .i64 t.id, .int .u64 (t.n : Int)] 61)) _ (by simp) _ _ _ rfl) (by simp [tmRow, Value.oneCell']) (by unfold maxLen; omega) (by omega) (by simp) ?_; intro v' w3 hO hG hT; obtain ⟨hgk, hgc, hgf⟩ := H1.out.grown HP.out hG ⟨rfl, rfl, rfl, by simp, fun k hk _ => Below.heap_alloc _ _ _ hk⟩; (try rw [← HOFF.out] at hgc hgf); have HW := hid (H1.out.put HP.out hG ⟨rfl, rfl, rfl, by simp, fun k hk _ => Below.heap_alloc _ _ _ hk⟩ v' t hO hT); have HTU := hid (H1.out.put_turned HP.out HAL.out hG ⟨rfl, rfl, rfl, by simp, fun k hk _ => Below.heap_alloc _ _ _ hk⟩ v' hT); (try rw [← HOFF.out] at HW HTU); obtain ⟨xa, xc, hxv, _⟩ := hO.form; clear hgk hO hG hT; subst hxv)
        all_goals
          go_wp2
          try simp only [Exit.inBlock, Exit.then]
          refine bodyPost_ret (results_none rfl _ _ _) rfl ?_
          exact ⟨⟨_, rfl⟩, _, by rw [HPL.out]; exact HW.out, HTU.out⟩
      · have hei : ((t.due : Int) / 65536 == (now : Int) / 65536) = false := by simp; omega
        go_wp2
        go_quiet (fail)
        go_wp2
        go_roundw
        case rel => refine ⟨4, _, by omega, ?_, ?_, ?_, ?_, ?_, rfl, rfl⟩ <;> omega
        case measure => simp [intOf]
    · have q0 := q0 (by omega)
      have q1 := q1 (by omega)
      have q2 := q2 (by omega)
      have q3 := q3 (by omega)
      by_cases he : t.due / 1048576 = now / 1048576
      · have hei : ((t.due : Int) / 1048576 == (now : Int) / 1048576) = true := by simp; omega
        have hpl : place now t.due = 64 + t.due / 65536 % 16 := by unfold place; rw [if_neg q0, if_neg q1, if_neg q2, if_neg q3, if_pos he]
        have hp : 64 + t.due / 65536 % 16 < 81 := by omega
        have hoff : 67 + t.due / 65536 % 16 = 3 + (64 + t.due / 65536 % 16) := by omega
        have hc := H1.out.cs (64 + t.due / 65536 % 16) hp
        have hfz := H1.out.fr (67 + t.due / 65536 % 16)
        rw [← hoff] at hc
        have hc2 := fun m => (H1.out.still ⟨rfl, rfl, rfl, by simp, fun k hk _ => Below.heap_alloc _ _ _ hk⟩ : Wh (((w.alloc (.cells #[.int .u64 (t.due : Int), .int .i64 t.id, .int .u64 (t.n : Int)] 61)).drewN m).alloc (.cells #[.int .u64 (t.due : Int), .int .i64 t.id, .int .u64 (t.n : Int)] 61)) b mb now n cnt d sz vs sl).cs (64 + t.due / 65536 % 16) hp
        rw [← hoff] at hc2
        have hc3 := (H1.out.still (kept_new (.cells #[.int .u64 (t.due : Int), .int .i64 t.id, .int .u64 (t.n : Int)] 61))).cs (64 + t.due / 65536 % 16) hp
        rw [← hoff] at hc3
        have hlen := HL.out (64 + t.due / 65536 % 16) hp
        have HP := hid hp
        have HPL := hid hpl
        have HOFF := hid hoff
        clear hp hpl hoff
        go_wp2
        go_quiet (fail)
        go_wp2
        go_quiet (fail)
        go_wp2
        go_region_law (refine step_append_Own rfl (.tmp 39) (.tmp 41) 54 rfl 0 61 (.agg #[.int .u64 0, .int .i64 0, .int .u64 0]) 3 24 Try.underlying54 (by kernel_rfl) rfl (by decide) (vs (64 + t.due / 65536 % 16)) (sl (64 + t.due / 65536 % 16)).length (tms (sl (64 + t.due / 65536 % 16))) (by simp [Act.eval, Act.put]) (by exact (H1.out.own (64 + t.due / 65536 % 16) HP.out).kept (S := []) ⟨rfl, rfl, rfl, by simp, fun k hk _ => Below.heap_alloc _ _ _ hk⟩ (not_in_nil _)) ⟨w.heap.size + 1, 0, none⟩ 1 1 (tmRow t) (by simp [Act.eval, Act.put]) rfl (by exact cells_new_at (w.alloc (.cells #[.int .u64 (t.due : Int), .int .i64 t.id, .int .u64 (t.n : Int)] 61)) _ (by simp) _ _ _ rfl) (by simp [tmRow, Value.oneCell']) (by unfold maxLen; omega) (by omega) (by simp) ?_; intro v' w3 hO hG hT; obtain ⟨hgk, hgc, hgf⟩ := H1.out.grown HP.out hG ⟨rfl, rfl, rfl, by simp, fun k hk _ => Below.heap_alloc _ _ _ hk⟩; (try rw [← HOFF.out] at hgc hgf); have HW := hid (H1.out.put HP.out hG ⟨rfl, rfl, rfl, by simp, fun k hk _ => Below.heap_alloc _ _ _ hk⟩ v' t hO hT); have HTU := hid (H1.out.put_turned HP.out HAL.out hG ⟨rfl, rfl, rfl, by simp, fun k hk _ => Below.heap_alloc _ _ _ hk⟩ v' hT); (try rw [← HOFF.out] at HW HTU); obtain ⟨xa, xc, hxv, _⟩ := hO.form; clear hgk hO hG hT; subst hxv)
        all_goals
          go_wp2
          try simp only [Exit.inBlock, Exit.then]
          refine bodyPost_ret (results_none rfl _ _ _) rfl ?_
          exact ⟨⟨_, rfl⟩, _, by rw [HPL.out]; exact HW.out, HTU.out⟩
      · have hei : ((t.due : Int) / 1048576 == (now : Int) / 1048576) = false := by simp; omega
        go_wp2
        go_quiet (fail)
        go_wp2
        go_roundw
        case rel => refine ⟨5, _, by omega, ?_, ?_, ?_, ?_, ?_, rfl, rfl⟩ <;> omega
        case measure => simp [intOf]
    · have q0 := q0 (by omega)
      have q1 := q1 (by omega)
      have q2 := q2 (by omega)
      have q3 := q3 (by omega)
      have q4 := q4 (by omega)
      have hpl : place now t.due = 80 := by unfold place; rw [if_neg q0, if_neg q1, if_neg q2, if_neg q3, if_neg q4]
      have hp : 80 < 81 := by omega
      have hoff : 83 = 3 + (80) := by omega
      have hc := H1.out.cs (80) hp
      have hfz := H1.out.fr (83)
      rw [← hoff] at hc
      have hc2 := fun m => (H1.out.still ⟨rfl, rfl, rfl, by simp, fun k hk _ => Below.heap_alloc _ _ _ hk⟩ : Wh (((w.alloc (.cells #[.int .u64 (t.due : Int), .int .i64 t.id, .int .u64 (t.n : Int)] 61)).drewN m).alloc (.cells #[.int .u64 (t.due : Int), .int .i64 t.id, .int .u64 (t.n : Int)] 61)) b mb now n cnt d sz vs sl).cs (80) hp
      rw [← hoff] at hc2
      have hc3 := (H1.out.still (kept_new (.cells #[.int .u64 (t.due : Int), .int .i64 t.id, .int .u64 (t.n : Int)] 61))).cs (80) hp
      rw [← hoff] at hc3
      have hlen := HL.out (80) hp
      have HP := hid hp
      have HPL := hid hpl
      have HOFF := hid hoff
      clear hp hpl hoff
      go_wp2
      go_region_law (refine step_append_Own rfl (.tmp 49) (.tmp 51) 54 rfl 0 61 (.agg #[.int .u64 0, .int .i64 0, .int .u64 0]) 3 24 Try.underlying54 (by kernel_rfl) rfl (by decide) (vs (80)) (sl (80)).length (tms (sl (80))) (by simp [Act.eval, Act.put]) (by exact (H1.out.own (80) HP.out).kept (S := []) ⟨rfl, rfl, rfl, by simp, fun k hk _ => Below.heap_alloc _ _ _ hk⟩ (not_in_nil _)) ⟨w.heap.size + 1, 0, none⟩ 1 1 (tmRow t) (by simp [Act.eval, Act.put]) rfl (by exact cells_new_at (w.alloc (.cells #[.int .u64 (t.due : Int), .int .i64 t.id, .int .u64 (t.n : Int)] 61)) _ (by simp) _ _ _ rfl) (by simp [tmRow, Value.oneCell']) (by unfold maxLen; omega) (by omega) (by simp) ?_; intro v' w3 hO hG hT; obtain ⟨hgk, hgc, hgf⟩ := H1.out.grown HP.out hG ⟨rfl, rfl, rfl, by simp, fun k hk _ => Below.heap_alloc _ _ _ hk⟩; (try rw [← HOFF.out] at hgc hgf); have HW := hid (H1.out.put HP.out hG ⟨rfl, rfl, rfl, by simp, fun k hk _ => Below.heap_alloc _ _ _ hk⟩ v' t hO hT); have HTU := hid (H1.out.put_turned HP.out HAL.out hG ⟨rfl, rfl, rfl, by simp, fun k hk _ => Below.heap_alloc _ _ _ hk⟩ v' hT); (try rw [← HOFF.out] at HW HTU); obtain ⟨xa, xc, hxv, _⟩ := hO.form; clear hgk hO hG hT; subst hxv)
      all_goals
        go_end0
        exact ⟨⟨_, rfl⟩, _, by rw [HPL.out]; exact HW.out, HTU.out⟩
end Go.Proofs.Ytkemkoiknoefdaa
