/- What is armed: the plain law of each call. -/
import Derived.Test.YtkemkoiknoefdaaWheelInv
namespace Go.Proofs.Ytkemkoiknoefdaa
set_option linter.unusedVariables false
set_option linter.unusedSimpArgs false

/-- Every timer of every list. -/
def AllT (Q : Tm → Prop) (sl : Nat → List Tm) : Prop := ∀ i, i < 81 → ∀ t ∈ sl i, Q t
theorem AllT.lvl {Q : Tm → Prop} {now q p : Nat} {d : Int → Nat} {s : Nat → List Tm} (h : AllT Q s) (hp : p < 81) : AllT Q (lvl now d q p s) := by
  unfold Go.Proofs.Ytkemkoiknoefdaa.lvl
  split
  · exact relay_mem hp h
  · exact h
theorem AllT.turned {Q : Tm → Prop} {now : Nat} {d : Int → Nat} {sl : Nat → List Tm} (h : AllT Q sl) : AllT Q (turned now d sl) := by
  rw [← part_zero]
  exact ((((h.lvl (now := now) (q := 1048576) (p := 80) (by omega)).lvl (now := now) (q := 65536) (p := 64 + now / 65536 % 16) (by omega)).lvl (now := now) (q := 4096) (p := 48 + now / 4096 % 16) (by omega)).lvl (now := now) (q := 256) (p := 32 + now / 256 % 16) (by omega)).lvl (now := now) (q := 16) (p := 16 + now / 16 % 16) (by omega)
def sum81 (f : Nat → Nat) : Nat → Nat
  | 0 => 0
  | k + 1 => sum81 f k + f k
theorem sum81_le (f : Nat → Nat) : ∀ (k i : Nat), i < k → f i ≤ sum81 f k
  | k + 1, i, h => by
    by_cases e : i = k
    · subst e; simp [sum81]
    · have := sum81_le f k i (by omega)
      simp only [sum81]; omega
theorem sum81_congr {f g : Nat → Nat} : ∀ {k : Nat}, (∀ i, i < k → f i = g i) → sum81 f k = sum81 g k
  | 0, _ => rfl
  | k + 1, h => by
    simp only [sum81]
    rw [sum81_congr (fun i hi => h i (by omega)), h k (by omega)]
theorem sum81_upd (f : Nat → Nat) (p x : Nat) : ∀ k, p < k → sum81 (upd f p x) k + f p = sum81 f k + x
  | k + 1, h => by
    simp only [sum81]
    by_cases e : p = k
    · subst e
      rw [upd_same, sum81_congr (g := f) (fun i hi => upd_other f x (by omega))]
      omega
    · have := sum81_upd f p x k (by omega)
      rw [upd_other f x (by omega)]
      omega
/-- How many timers the lists hold, armed or not. -/
def tot (sl : Nat → List Tm) : Nat := sum81 (fun i => (sl i).length) 81
theorem tot_upd (sl : Nat → List Tm) (p : Nat) (l : List Tm) (hp : p < 81) : tot (upd sl p l) + (sl p).length = tot sl + l.length := by
  have := sum81_upd (fun i => (sl i).length) p l.length 81 hp
  unfold tot
  rw [← this, sum81_congr]
  intro i hi
  unfold upd
  split <;> rfl
theorem tot_lay (now : Nat) (d : Int → Nat) (sl : Nat → List Tm) (t : Tm) : tot (lay now d sl t) ≤ tot sl + 1 := by
  unfold lay
  split
  · have := tot_upd sl (place now t.due) (sl (place now t.due) ++ [t]) (place_lt _ _)
    rw [List.length_append] at this
    simp only [List.length_cons, List.length_nil] at this
    omega
  · omega
theorem tot_fold (now : Nat) (d : Int → Nat) : ∀ (l : List Tm) (sl : Nat → List Tm), tot (l.foldl (lay now d) sl) ≤ tot sl + l.length
  | [], sl => by simp
  | t :: l, sl => by
    have h1 := tot_fold now d l (lay now d sl t)
    have h2 := tot_lay now d sl t
    simp only [List.foldl_cons, List.length_cons]
    omega
theorem tot_lvl {now q p : Nat} {d : Int → Nat} {s : Nat → List Tm} (hp : p < 81) : tot (lvl now d q p s) ≤ tot s := by
  unfold lvl
  split
  · unfold relay
    have h1 := tot_fold now d (s p) (upd s p [])
    have h2 := tot_upd s p [] hp
    simp only [List.length_nil] at h2
    omega
  · omega
theorem tot_turned (now : Nat) (d : Int → Nat) (sl : Nat → List Tm) : tot (turned now d sl) ≤ tot sl := by
  rw [← part_zero]
  have h5 := tot_lvl (now := now) (d := d) (q := 1048576) (p := 80) (s := sl) (by omega)
  have h4 := tot_lvl (now := now) (d := d) (q := 65536) (p := 64 + now / 65536 % 16) (s := part now d sl 4) (by omega)
  have h3 := tot_lvl (now := now) (d := d) (q := 4096) (p := 48 + now / 4096 % 16) (s := part now d sl 3) (by omega)
  have h2 := tot_lvl (now := now) (d := d) (q := 256) (p := 32 + now / 256 % 16) (s := part now d sl 2) (by omega)
  have h1 := tot_lvl (now := now) (d := d) (q := 16) (p := 16 + now / 16 % 16) (s := part now d sl 1) (by omega)
  exact Nat.le_trans h1 (Nat.le_trans h2 (Nat.le_trans h3 (Nat.le_trans h4 h5)))

/-- What a timer of a list is: n arms ago there were so many. -/
def Good (n : Nat) (hist : Nat → Tm) (t : Tm) : Prop := 1 ≤ t.n ∧ t.n ≤ n ∧ hist t.n = t ∧ (Lit.int .i64 t.id).wf = true ∧ t.due ≤ 1152921504606846976
def ByN (l : List Tm) : Prop := l.Pairwise fun x y => x.n < y.n
/-- The timers L are armed, by how they were. -/
structure Inv (now n cnt : Nat) (d : Int → Nat) (sz : Nat) (sl : Nat → List Tm) (L : List Tm) : Prop where
  byn : ByN L
  apart : L.Pairwise fun x y => x.id ≠ y.id
  due : ∀ t ∈ L, now < t.due
  live : ∀ t ∈ L, d t.id = t.n
  any : ∀ id, d id ≠ 0 → ∃ t ∈ L, t.id = id
  size : sz = L.length
  cnt : cnt ≤ n
  good : ∃ hist, AllT (Good n hist) sl
  spr : Spr d L (fun t => place now t.due) sl
  tot : tot sl ≤ n
theorem Inv.mem {now n cnt sz : Nat} {d : Int → Nat} {sl : Nat → List Tm} {L : List Tm} (h : Inv now n cnt d sz sl L) {t : Tm} (ht : t ∈ L) : t ∈ sl (place now t.due) := by
  have := (h.spr _ (place_lt now t.due)).mem_iff (a := t)
  exact (List.mem_filter.1 (this.2 (List.mem_filter.2 ⟨ht, by simp⟩))).1
theorem Inv.goodL {now n cnt sz : Nat} {d : Int → Nat} {sl : Nat → List Tm} {L : List Tm} (h : Inv now n cnt d sz sl L) {t : Tm} (ht : t ∈ L) : 1 ≤ t.n ∧ t.n ≤ n ∧ (Lit.int .i64 t.id).wf = true ∧ t.due ≤ 1152921504606846976 := by
  obtain ⟨hist, hg⟩ := h.good
  obtain ⟨h1, h2, h3, h4, h5⟩ := hg _ (place_lt now t.due) t (h.mem ht)
  exact ⟨h1, h2, h4, h5⟩
theorem Inv.len {now n cnt sz : Nat} {d : Int → Nat} {sl : Nat → List Tm} {L : List Tm} (h : Inv now n cnt d sz sl L) (i : Nat) (hi : i < 81) : (sl i).length ≤ n := by
  have h1 := sum81_le (fun i => (sl i).length) 81 i hi
  have h2 := h.tot
  unfold Go.Proofs.Ytkemkoiknoefdaa.tot at h2
  omega
theorem Inv.ok {now n cnt sz : Nat} {d : Int → Nat} {sl : Nat → List Tm} {L : List Tm} (h : Inv now n cnt d sz sl L) (hn : n ≤ 1000000) : Ok 1000000 sl := by
  obtain ⟨hist, hg⟩ := h.good
  refine ⟨fun i hi => by have := h.len i hi; omega, fun i hi t ht => ?_⟩
  obtain ⟨h1, h2, h3, h4, h5⟩ := hg i hi t ht
  exact ⟨h4, by omega⟩
theorem Inv.zero {now n cnt sz : Nat} {d : Int → Nat} {sl : Nat → List Tm} {L : List Tm} (h : Inv now n cnt d sz sl L) (id : Int) : d id = 0 ↔ ∀ t ∈ L, t.id ≠ id := by
  refine ⟨fun h0 t ht e => ?_, fun h0 => ?_⟩
  · have h1 := h.live t ht
    have h2 := (h.goodL ht).1
    rw [e, h0] at h1
    omega
  · refine Classical.byContradiction fun h1 => ?_
    obtain ⟨t, ht, e⟩ := h.any id h1
    exact h0 t ht e
theorem inv_new (now : Nat) : Inv now 0 0 (fun _ => 0) 0 (fun _ => []) [] :=
  ⟨List.Pairwise.nil, List.Pairwise.nil, by simp, by simp, fun id h => (h rfl).elim, rfl, Nat.le_refl _, ⟨fun n => ⟨0, 0, 0⟩, fun i hi t ht => by simp at ht⟩, fun i hi => by simp, by unfold tot; decide⟩
/-- The timers but for one number's. -/
def less (L : List Tm) (id : Int) : List Tm := L.filter fun t => decide (t.id ≠ id)
theorem less_none {L : List Tm} {id : Int} (h : ∀ t ∈ L, t.id ≠ id) : less L id = L := List.filter_eq_self.2 (fun t ht => by simpa using h t ht)
theorem less_one {id : Int} : ∀ {L : List Tm}, L.Pairwise (fun x y => x.id ≠ y.id) → (∃ t ∈ L, t.id = id) → (less L id).length + 1 = L.length
  | [], _, h => by obtain ⟨t, ht, _⟩ := h; simp at ht
  | x :: L, hp, h => by
    rw [List.pairwise_cons] at hp
    by_cases e : x.id = id
    · have h1 : less (x :: L) id = less L id := by unfold less; rw [List.filter_cons_of_neg (by simp [e])]
      rw [h1, less_none (fun t ht he => hp.1 t ht (by rw [e, he]))]
      simp
    · have h1 : less (x :: L) id = x :: less L id := by unfold less; rw [List.filter_cons_of_pos (by simp [e])]
      rw [h1, List.length_cons, List.length_cons, less_one hp.2 (by
        obtain ⟨t, ht, he⟩ := h
        rcases List.mem_cons.1 ht with rfl | ht
        · exact absurd he e
        · exact ⟨t, ht, he⟩)]
theorem less_mem {L : List Tm} {id : Int} {t : Tm} : t ∈ less L id ↔ t ∈ L ∧ t.id ≠ id := by unfold less; simp [List.mem_filter]
/-- The lists, when one number's timer is no more (v: what the map holds of it then). -/
theorem Inv.spr_less {now n cnt sz : Nat} {d : Int → Nat} {sl : Nat → List Tm} {L : List Tm} (h : Inv now n cnt d sz sl L) (id : Int) (v : Nat) (hv : ∀ i, i < 81 → ∀ t ∈ sl i, v ≠ t.n) : Spr (fun i => if i = id then v else d i) (less L id) (fun t => place now t.due) sl := by
  intro i hi
  have h1 : (sl i).filter (lv (fun i => if i = id then v else d i)) = ((sl i).filter (lv d)).filter (fun t => decide (t.id ≠ id)) := by
    rw [List.filter_filter]
    refine List.filter_congr fun t ht => ?_
    unfold lv
    by_cases e : t.id = id
    · simp [e, hv i hi t ht]
    · simp [e]
  rw [h1]
  refine ((h.spr i hi).filter _).trans ?_
  unfold less
  rw [List.filter_filter, List.filter_filter, List.filter_congr (fun t _ => Bool.and_comm _ _)]
theorem inv_cancel {now n cnt sz : Nat} {d : Int → Nat} {sl : Nat → List Tm} {L : List Tm} (h : Inv now n cnt d sz sl L) (id : Int) (hd : d id ≠ 0) : Inv now n cnt (fun i => if i = id then 0 else d i) (sz - 1) sl (less L id) where
  byn := h.byn.filter _
  apart := h.apart.filter _
  due := fun t ht => h.due t (less_mem.1 ht).1
  live := fun t ht => by
    obtain ⟨h1, h2⟩ := less_mem.1 ht
    show (if t.id = id then 0 else d t.id) = t.n
    rw [if_neg h2]
    exact h.live t h1
  any := fun i hi => by
    have hi : (if i = id then 0 else d i) ≠ 0 := hi
    by_cases e : i = id
    · rw [if_pos e] at hi; exact absurd rfl hi
    · rw [if_neg e] at hi
      obtain ⟨t, ht, he⟩ := h.any i hi
      exact ⟨t, less_mem.2 ⟨ht, by rw [he]; exact e⟩, he⟩
  size := by have := less_one h.apart (h.any id hd); have := h.size; omega
  cnt := h.cnt
  good := h.good
  spr := h.spr_less id 0 (fun i hi t ht => by obtain ⟨hist, hg⟩ := h.good; have := (hg i hi t ht).1; omega)
  tot := h.tot
theorem inv_arm {now n cnt sz : Nat} {d : Int → Nat} {sl : Nat → List Tm} {L : List Tm} (h : Inv now n cnt d sz sl L) (id : Int) (hw : (Lit.int .i64 id).wf = true) (k : Nat) (hk : 1 ≤ k) (hk2 : now + k ≤ 1152921504606846976) :
    Inv now (n + 1) (cnt + 1) (fun i => if i = id then n + 1 else d i) (if d id = 0 then sz + 1 else sz) (upd sl (place now (now + k)) (sl (place now (now + k)) ++ [⟨now + k, id, n + 1⟩])) (less L id ++ [⟨now + k, id, n + 1⟩]) where
  byn := by
    refine List.pairwise_append.2 ⟨h.byn.filter _, List.pairwise_singleton _ _, fun x hx y hy => ?_⟩
    simp at hy; subst hy
    have := (h.goodL (less_mem.1 hx).1).2.1
    show x.n < n + 1
    omega
  apart := by
    refine List.pairwise_append.2 ⟨h.apart.filter _, List.pairwise_singleton _ _, fun x hx y hy => ?_⟩
    simp at hy; subst hy
    exact (less_mem.1 hx).2
  due := fun t ht => by
    rcases List.mem_append.1 ht with ht | ht
    · exact h.due t (less_mem.1 ht).1
    · simp at ht; subst ht; show now < now + k; omega
  live := fun t ht => by
    show (if t.id = id then n + 1 else d t.id) = t.n
    rcases List.mem_append.1 ht with ht | ht
    · obtain ⟨h1, h2⟩ := less_mem.1 ht
      rw [if_neg h2]; exact h.live t h1
    · simp at ht; subst ht; simp
  any := fun i hi => by
    have hi : (if i = id then n + 1 else d i) ≠ 0 := hi
    by_cases e : i = id
    · exact ⟨_, List.mem_append.2 (.inr (by simp; rfl)), e.symm⟩
    · rw [if_neg e] at hi
      obtain ⟨t, ht, he⟩ := h.any i hi
      exact ⟨t, List.mem_append.2 (.inl (less_mem.2 ⟨ht, by rw [he]; exact e⟩)), he⟩
  size := by
    have hs := h.size
    rw [List.length_append]
    by_cases e : d id = 0
    · rw [if_pos e, less_none ((h.zero id).1 e)]; simp [hs]
    · rw [if_neg e]
      have := less_one h.apart (h.any id e)
      simp; omega
  cnt := by have := h.cnt; omega
  good := by
    obtain ⟨hist, hg⟩ := h.good
    refine ⟨upd hist (n + 1) ⟨now + k, id, n + 1⟩, fun i hi t ht => ?_⟩
    have hold : ∀ t ∈ sl i, Good (n + 1) (upd hist (n + 1) ⟨now + k, id, n + 1⟩) t := fun t ht => by
      obtain ⟨h1, h2, h3, h4, h5⟩ := hg i hi t ht
      exact ⟨h1, by omega, by rw [upd_other _ _ (by omega)]; exact h3, h4, h5⟩
    by_cases e : i = place now (now + k)
    · subst e
      rw [upd_same] at ht
      rcases List.mem_append.1 ht with ht | ht
      · exact hold t ht
      · simp at ht; subst ht
        exact ⟨by show 1 ≤ n + 1; omega, Nat.le_refl _, upd_same _ _ _, hw, hk2⟩
    · rw [upd_other _ _ e] at ht; exact hold t ht
  spr := by
    intro i hi
    have h1 := h.spr_less id (n + 1) (fun i hi t ht => by obtain ⟨hist, hg⟩ := h.good; have := (hg i hi t ht).2.1; omega) i hi
    have hl : lv (fun i => if i = id then n + 1 else d i) ⟨now + k, id, n + 1⟩ = true := by simp [lv]
    rw [List.filter_append]
    by_cases e : i = place now (now + k)
    · subst e
      rw [upd_same, List.filter_append, List.filter_cons_of_pos hl, List.filter_cons_of_pos (by simp)]
      exact h1.append (List.Perm.refl _)
    · rw [upd_other _ _ e, List.filter_cons_of_neg (by simp; exact fun x => e x.symm)]
      simpa using h1
  tot := by
    have := tot_upd sl (place now (now + k)) (sl (place now (now + k)) ++ [⟨now + k, id, n + 1⟩]) (place_lt _ _)
    rw [List.length_append] at this
    have h2 := h.tot
    simp only [List.length_cons, List.length_nil] at this
    omega
end Go.Proofs.Ytkemkoiknoefdaa
