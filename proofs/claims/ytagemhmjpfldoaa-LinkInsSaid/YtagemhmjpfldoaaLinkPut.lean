/- An append onto one of the six slices of the law's world, and its store. -/
import Derived.Test.YtagemhmjpfldoaaLinkWo
namespace Go.Proofs.Ytagemhmjpfldoaa
open Go.RowKit
set_option linter.unusedVariables false
set_option linter.unusedSimpArgs false
theorem Kept.as {S : List Nat} {a b w : World} (h : Kept S b w) (hs : Sim a b) : Kept S a w :=
  ⟨h.os.trans hs.os, h.tape.trans hs.tape, h.output.trans hs.output, by rw [← hs.heap]; exact h.size, fun k hk hn => by
    rw [← hs.heap]; exact h.block k (by rw [hs.heap]; exact hk) hn⟩
theorem mem_own {v : Value} {k : Nat} : k ∈ v.ownBlock.toList ↔ v.ownBlock = some k := by cases v.ownBlock <;> simp [eq_comm]

theorem Wo.grown4 {w0 : World} {T : Nat → Nat} {w : World} {wb : Nat} {A B : Ends} {m win : Nat} {V : Six} {lA lB : List (Pk × Value)} {s : St} (h : Wo w0 T w wb A B m win V lA lB s) {W w' : World} (hW : Kept [] w W) (hg : W.grownBy w' V.pA.ownBlock) : Kept V.pA.ownBlock.toList w w' ∧ w'.cell? ⟨wb, 0 + 2, none⟩ = some V.pA ∧ w'.frozen? ⟨wb, 0 + 2, none⟩ = false := by
  have hk : Kept V.pA.ownBlock.toList w w' := (hW.mono (by simp)).grown hg (fun k hk _ => mem_own.2 hk)
  have hb := hk.blk h.blk (fun hm => by have := h.t4 _ (mem_own.1 hm); rw [h.t3] at this; omega)
  exact ⟨hk, cell_of hb, frozen_of hb⟩
theorem Wo.put4 {w0 : World} {T : Nat → Nat} {w : World} {wb : Nat} {A B : Ends} {m win : Nat} {V : Six} {lA lB : List (Pk × Value)} {s : St} (h : Wo w0 T w wb A B m win V lA lB s) {W w' : World} (hW : Kept [] w W) (hg : W.grownBy w' V.pA.ownBlock) (v' : Value) (x : Value) (hx : ∃ z : ByteArray, x = .string z) (hO : Own 0 9 1 w' v' (s.pA.length + 1) (s.pA ++ [x])) (hT : ∀ k, v'.ownBlock = some k → V.pA.ownBlock = some k ∨ W.heap.size ≤ k) :
    Wo w0 (up T w.heap.size 4) (w'.setCell ⟨wb, 0 + 2, none⟩ v') wb A B m win { V with pA := v' } lA lB { s with pA := s.pA ++ [x] } := by
  obtain ⟨hk, _, _⟩ := h.grown4 hW hg
  have hwb : wb ∉ V.pA.ownBlock.toList := fun hm => by have := h.t4 _ (mem_own.1 hm); rw [h.t3] at this; omega
  have hb := hk.blk h.blk hwb
  have hlw := lt_of_blk h.blk
  have hWs := hW.size
  have hk2 : Kept (wb :: V.pA.ownBlock.toList) w (w'.setCell ⟨wb, 0 + 2, none⟩ v') := (hk.mono (by simp; intro a ha; exact .inr ha)).setCell (by simp) _
  have hset : Kept [wb] w' (w'.setCell ⟨wb, 0 + 2, none⟩ v') := (Kept.refl _ _).setCell (by simp) _
  have hvb : NotIn [wb] v' := fun k hk hm => by
    simp at hm
    subst hm
    rcases hT _ hk with h1 | h1
    · exact hwb (mem_own.2 h1)
    · omega
  have htag : Tag (up T w.heap.size 4) 4 v' := fun k hk => by
    rcases hT k hk with h1 | h1
    · rw [up_old (h.pA.lt k h1).2]; exact h.t4 k h1
    · rw [up_new (by omega)]

  refine h.carry hk2 (fun z => z == 4 || z == 3) rfl ?_ 4 { V with pA := v' } lA lB { s with pA := s.pA ++ [x] } (by rw [show ((3 : Nat) == 4 || (3 : Nat) == 3) = true from rfl, cond_true]; exact (blk_set hb v').trans rfl) ⟨rfl, rfl, rfl, rfl⟩ ⟨rfl, rfl, rfl, rfl⟩ ⟨?_, htag, fun y hy => ?_⟩ ⟨rfl, rfl⟩ ⟨rfl, rfl⟩ ⟨rfl, rfl⟩ ⟨rfl, rfl, rfl⟩ ⟨rfl, rfl, rfl⟩ rfl
  · intro k hk
    rcases List.mem_cons.1 hk with rfl | hk
    · rw [h.t3]; rfl
    · rw [h.t4 k (mem_own.1 hk)]; rfl
  · unfold OwnL
    rw [List.length_append]
    exact hO.kept hset hvb
  · rcases List.mem_append.1 hy with h1 | h1
    · exact h.oA y h1
    · simp at h1; subst h1; exact hx

theorem Wo.grown5 {w0 : World} {T : Nat → Nat} {w : World} {wb : Nat} {A B : Ends} {m win : Nat} {V : Six} {lA lB : List (Pk × Value)} {s : St} (h : Wo w0 T w wb A B m win V lA lB s) {W w' : World} (hW : Kept [] w W) (hg : W.grownBy w' V.pB.ownBlock) : Kept V.pB.ownBlock.toList w w' ∧ w'.cell? ⟨wb, 0 + 3, none⟩ = some V.pB ∧ w'.frozen? ⟨wb, 0 + 3, none⟩ = false := by
  have hk : Kept V.pB.ownBlock.toList w w' := (hW.mono (by simp)).grown hg (fun k hk _ => mem_own.2 hk)
  have hb := hk.blk h.blk (fun hm => by have := h.t5 _ (mem_own.1 hm); rw [h.t3] at this; omega)
  exact ⟨hk, cell_of hb, frozen_of hb⟩
theorem Wo.put5 {w0 : World} {T : Nat → Nat} {w : World} {wb : Nat} {A B : Ends} {m win : Nat} {V : Six} {lA lB : List (Pk × Value)} {s : St} (h : Wo w0 T w wb A B m win V lA lB s) {W w' : World} (hW : Kept [] w W) (hg : W.grownBy w' V.pB.ownBlock) (v' : Value) (x : Value) (hx : ∃ z : Int, x = .int .i64 z) (hO : Own 0 3 1 w' v' (s.pB.length + 1) (s.pB ++ [x])) (hT : ∀ k, v'.ownBlock = some k → V.pB.ownBlock = some k ∨ W.heap.size ≤ k) :
    Wo w0 (up T w.heap.size 5) (w'.setCell ⟨wb, 0 + 3, none⟩ v') wb A B m win { V with pB := v' } lA lB { s with pB := s.pB ++ [x] } := by
  obtain ⟨hk, _, _⟩ := h.grown5 hW hg
  have hwb : wb ∉ V.pB.ownBlock.toList := fun hm => by have := h.t5 _ (mem_own.1 hm); rw [h.t3] at this; omega
  have hb := hk.blk h.blk hwb
  have hlw := lt_of_blk h.blk
  have hWs := hW.size
  have hk2 : Kept (wb :: V.pB.ownBlock.toList) w (w'.setCell ⟨wb, 0 + 3, none⟩ v') := (hk.mono (by simp; intro a ha; exact .inr ha)).setCell (by simp) _
  have hset : Kept [wb] w' (w'.setCell ⟨wb, 0 + 3, none⟩ v') := (Kept.refl _ _).setCell (by simp) _
  have hvb : NotIn [wb] v' := fun k hk hm => by
    simp at hm
    subst hm
    rcases hT _ hk with h1 | h1
    · exact hwb (mem_own.2 h1)
    · omega
  have htag : Tag (up T w.heap.size 5) 5 v' := fun k hk => by
    rcases hT k hk with h1 | h1
    · rw [up_old (h.pB.lt k h1).2]; exact h.t5 k h1
    · rw [up_new (by omega)]

  refine h.carry hk2 (fun z => z == 5 || z == 3) rfl ?_ 5 { V with pB := v' } lA lB { s with pB := s.pB ++ [x] } (by rw [show ((3 : Nat) == 5 || (3 : Nat) == 3) = true from rfl, cond_true]; exact (blk_set hb v').trans rfl) ⟨rfl, rfl, rfl, rfl⟩ ⟨rfl, rfl, rfl, rfl⟩ ⟨rfl, rfl⟩ ⟨?_, htag, fun y hy => ?_⟩ ⟨rfl, rfl⟩ ⟨rfl, rfl⟩ ⟨rfl, rfl, rfl⟩ ⟨rfl, rfl, rfl⟩ rfl
  · intro k hk
    rcases List.mem_cons.1 hk with rfl | hk
    · rw [h.t3]; rfl
    · rw [h.t5 k (mem_own.1 hk)]; rfl
  · unfold OwnL
    rw [List.length_append]
    exact hO.kept hset hvb
  · rcases List.mem_append.1 hy with h1 | h1
    · exact h.oB y h1
    · simp at h1; subst h1; exact hx

theorem Wo.grown6 {w0 : World} {T : Nat → Nat} {w : World} {wb : Nat} {A B : Ends} {m win : Nat} {V : Six} {lA lB : List (Pk × Value)} {s : St} (h : Wo w0 T w wb A B m win V lA lB s) {W w' : World} (hW : Kept [] w W) (hg : W.grownBy w' V.gA.ownBlock) : Kept V.gA.ownBlock.toList w w' ∧ w'.cell? ⟨wb, 0 + 4, none⟩ = some V.gA ∧ w'.frozen? ⟨wb, 0 + 4, none⟩ = false := by
  have hk : Kept V.gA.ownBlock.toList w w' := (hW.mono (by simp)).grown hg (fun k hk _ => mem_own.2 hk)
  have hb := hk.blk h.blk (fun hm => by have := h.t6 _ (mem_own.1 hm); rw [h.t3] at this; omega)
  exact ⟨hk, cell_of hb, frozen_of hb⟩
theorem Wo.put6 {w0 : World} {T : Nat → Nat} {w : World} {wb : Nat} {A B : Ends} {m win : Nat} {V : Six} {lA lB : List (Pk × Value)} {s : St} (h : Wo w0 T w wb A B m win V lA lB s) {W w' : World} (hW : Kept [] w W) (hg : W.grownBy w' V.gA.ownBlock) (v' : Value) (x : Value) (hO : Own 0 3 1 w' v' (s.gA.length + 1) (s.gA ++ [x])) (hT : ∀ k, v'.ownBlock = some k → V.gA.ownBlock = some k ∨ W.heap.size ≤ k) :
    Wo w0 (up T w.heap.size 6) (w'.setCell ⟨wb, 0 + 4, none⟩ v') wb A B m win { V with gA := v' } lA lB { s with gA := s.gA ++ [x] } := by
  obtain ⟨hk, _, _⟩ := h.grown6 hW hg
  have hwb : wb ∉ V.gA.ownBlock.toList := fun hm => by have := h.t6 _ (mem_own.1 hm); rw [h.t3] at this; omega
  have hb := hk.blk h.blk hwb
  have hlw := lt_of_blk h.blk
  have hWs := hW.size
  have hk2 : Kept (wb :: V.gA.ownBlock.toList) w (w'.setCell ⟨wb, 0 + 4, none⟩ v') := (hk.mono (by simp; intro a ha; exact .inr ha)).setCell (by simp) _
  have hset : Kept [wb] w' (w'.setCell ⟨wb, 0 + 4, none⟩ v') := (Kept.refl _ _).setCell (by simp) _
  have hvb : NotIn [wb] v' := fun k hk hm => by
    simp at hm
    subst hm
    rcases hT _ hk with h1 | h1
    · exact hwb (mem_own.2 h1)
    · omega
  have htag : Tag (up T w.heap.size 6) 6 v' := fun k hk => by
    rcases hT k hk with h1 | h1
    · rw [up_old (h.gA.lt k h1).2]; exact h.t6 k h1
    · rw [up_new (by omega)]

  refine h.carry hk2 (fun z => z == 6 || z == 3) rfl ?_ 6 { V with gA := v' } lA lB { s with gA := s.gA ++ [x] } (by rw [show ((3 : Nat) == 6 || (3 : Nat) == 3) = true from rfl, cond_true]; exact (blk_set hb v').trans rfl) ⟨rfl, rfl, rfl, rfl⟩ ⟨rfl, rfl, rfl, rfl⟩ ⟨rfl, rfl⟩ ⟨rfl, rfl⟩ ⟨?_, htag⟩ ⟨rfl, rfl⟩ ⟨rfl, rfl, rfl⟩ ⟨rfl, rfl, rfl⟩ rfl
  · intro k hk
    rcases List.mem_cons.1 hk with rfl | hk
    · rw [h.t3]; rfl
    · rw [h.t6 k (mem_own.1 hk)]; rfl
  · unfold OwnL
    rw [List.length_append]
    exact hO.kept hset hvb

theorem Wo.grown7 {w0 : World} {T : Nat → Nat} {w : World} {wb : Nat} {A B : Ends} {m win : Nat} {V : Six} {lA lB : List (Pk × Value)} {s : St} (h : Wo w0 T w wb A B m win V lA lB s) {W w' : World} (hW : Kept [] w W) (hg : W.grownBy w' V.gB.ownBlock) : Kept V.gB.ownBlock.toList w w' ∧ w'.cell? ⟨wb, 0 + 5, none⟩ = some V.gB ∧ w'.frozen? ⟨wb, 0 + 5, none⟩ = false := by
  have hk : Kept V.gB.ownBlock.toList w w' := (hW.mono (by simp)).grown hg (fun k hk _ => mem_own.2 hk)
  have hb := hk.blk h.blk (fun hm => by have := h.t7 _ (mem_own.1 hm); rw [h.t3] at this; omega)
  exact ⟨hk, cell_of hb, frozen_of hb⟩
theorem Wo.put7 {w0 : World} {T : Nat → Nat} {w : World} {wb : Nat} {A B : Ends} {m win : Nat} {V : Six} {lA lB : List (Pk × Value)} {s : St} (h : Wo w0 T w wb A B m win V lA lB s) {W w' : World} (hW : Kept [] w W) (hg : W.grownBy w' V.gB.ownBlock) (v' : Value) (x : Value) (hO : Own 0 9 1 w' v' (s.gB.length + 1) (s.gB ++ [x])) (hT : ∀ k, v'.ownBlock = some k → V.gB.ownBlock = some k ∨ W.heap.size ≤ k) :
    Wo w0 (up T w.heap.size 7) (w'.setCell ⟨wb, 0 + 5, none⟩ v') wb A B m win { V with gB := v' } lA lB { s with gB := s.gB ++ [x] } := by
  obtain ⟨hk, _, _⟩ := h.grown7 hW hg
  have hwb : wb ∉ V.gB.ownBlock.toList := fun hm => by have := h.t7 _ (mem_own.1 hm); rw [h.t3] at this; omega
  have hb := hk.blk h.blk hwb
  have hlw := lt_of_blk h.blk
  have hWs := hW.size
  have hk2 : Kept (wb :: V.gB.ownBlock.toList) w (w'.setCell ⟨wb, 0 + 5, none⟩ v') := (hk.mono (by simp; intro a ha; exact .inr ha)).setCell (by simp) _
  have hset : Kept [wb] w' (w'.setCell ⟨wb, 0 + 5, none⟩ v') := (Kept.refl _ _).setCell (by simp) _
  have hvb : NotIn [wb] v' := fun k hk hm => by
    simp at hm
    subst hm
    rcases hT _ hk with h1 | h1
    · exact hwb (mem_own.2 h1)
    · omega
  have htag : Tag (up T w.heap.size 7) 7 v' := fun k hk => by
    rcases hT k hk with h1 | h1
    · rw [up_old (h.gB.lt k h1).2]; exact h.t7 k h1
    · rw [up_new (by omega)]

  refine h.carry hk2 (fun z => z == 7 || z == 3) rfl ?_ 7 { V with gB := v' } lA lB { s with gB := s.gB ++ [x] } (by rw [show ((3 : Nat) == 7 || (3 : Nat) == 3) = true from rfl, cond_true]; exact (blk_set hb v').trans rfl) ⟨rfl, rfl, rfl, rfl⟩ ⟨rfl, rfl, rfl, rfl⟩ ⟨rfl, rfl⟩ ⟨rfl, rfl⟩ ⟨rfl, rfl⟩ ⟨?_, htag⟩ ⟨rfl, rfl, rfl⟩ ⟨rfl, rfl, rfl⟩ rfl
  · intro k hk
    rcases List.mem_cons.1 hk with rfl | hk
    · rw [h.t3]; rfl
    · rw [h.t7 k (mem_own.1 hk)]; rfl
  · unfold OwnL
    rw [List.length_append]
    exact hO.kept hset hvb

theorem Wo.grown8 {w0 : World} {T : Nat → Nat} {w : World} {wb : Nat} {A B : Ends} {m win : Nat} {V : Six} {lA lB : List (Pk × Value)} {s : St} (h : Wo w0 T w wb A B m win V lA lB s) {W w' : World} (hW : Kept [] w W) (hg : W.grownBy w' V.tA.ownBlock) : Kept V.tA.ownBlock.toList w w' ∧ w'.cell? ⟨wb, 0 + 6, none⟩ = some V.tA ∧ w'.frozen? ⟨wb, 0 + 6, none⟩ = false := by
  have hk : Kept V.tA.ownBlock.toList w w' := (hW.mono (by simp)).grown hg (fun k hk _ => mem_own.2 hk)
  have hb := hk.blk h.blk (fun hm => by have := h.t8 _ (mem_own.1 hm); rw [h.t3] at this; omega)
  exact ⟨hk, cell_of hb, frozen_of hb⟩
theorem Wo.put8 {w0 : World} {T : Nat → Nat} {w : World} {wb : Nat} {A B : Ends} {m win : Nat} {V : Six} {lA lB : List (Pk × Value)} {s : St} (h : Wo w0 T w wb A B m win V lA lB s) {W w' : World} (hW : Kept [] w W) (hg : W.grownBy w' V.tA.ownBlock) (v' : Value) (q : Pk × Value) (hq : OwnL 0 3 w q.2 q.1.items) (hqt : Tag T 10 q.2) (hO : Own 0 49 5 w' v' (lA.length + 1) (rows lA ++ rowOf q)) (hT : ∀ k, v'.ownBlock = some k → V.tA.ownBlock = some k ∨ W.heap.size ≤ k) :
    Wo w0 (up T w.heap.size 8) (w'.setCell ⟨wb, 0 + 6, none⟩ v') wb A B m win { V with tA := v' } (lA ++ [q]) lB { s with tA := s.tA ++ [q.1] } := by
  obtain ⟨hk, _, _⟩ := h.grown8 hW hg
  have hwb : wb ∉ V.tA.ownBlock.toList := fun hm => by have := h.t8 _ (mem_own.1 hm); rw [h.t3] at this; omega
  have hb := hk.blk h.blk hwb
  have hlw := lt_of_blk h.blk
  have hWs := hW.size
  have hk2 : Kept (wb :: V.tA.ownBlock.toList) w (w'.setCell ⟨wb, 0 + 6, none⟩ v') := (hk.mono (by simp; intro a ha; exact .inr ha)).setCell (by simp) _
  have hset : Kept [wb] w' (w'.setCell ⟨wb, 0 + 6, none⟩ v') := (Kept.refl _ _).setCell (by simp) _
  have hvb : NotIn [wb] v' := fun k hk hm => by
    simp at hm
    subst hm
    rcases hT _ hk with h1 | h1
    · exact hwb (mem_own.2 h1)
    · omega
  have htag : Tag (up T w.heap.size 8) 8 v' := fun k hk => by
    rcases hT k hk with h1 | h1
    · rw [up_old (h.tA.lt k h1).2]; exact h.t8 k h1
    · rw [up_new (by omega)]

  refine h.carry hk2 (fun z => z == 8 || z == 3) rfl ?_ 8 { V with tA := v' } (lA ++ [q]) lB { s with tA := s.tA ++ [q.1] } (by rw [show ((3 : Nat) == 8 || (3 : Nat) == 3) = true from rfl, cond_true]; exact (blk_set hb v').trans rfl) ⟨rfl, rfl, rfl, rfl⟩ ⟨rfl, rfl, rfl, rfl⟩ ⟨rfl, rfl⟩ ⟨rfl, rfl⟩ ⟨rfl, rfl⟩ ⟨rfl, rfl⟩ ⟨?_, htag, by simp [h.fA], fun q' hq' => ?_⟩ ⟨rfl, rfl, rfl⟩ rfl
  · intro k hk
    rcases List.mem_cons.1 hk with rfl | hk
    · rw [h.t3]; rfl
    · rw [h.t8 k (mem_own.1 hk)]; rfl
  · rw [List.length_append, rows_append]
    simp only [rows, List.append_nil]
    exact hO.kept hset hvb
  · rcases List.mem_append.1 hq' with h1 | h1
    · exact .inl h1
    · simp at h1
      subst h1
      exact .inr ⟨hq.kept hk2 (fun k hk hm => by
        rcases List.mem_cons.1 hm with rfl | hm
        · have := hqt _ hk; rw [h.t3] at this; omega
        · have := hqt _ hk; rw [h.t8 _ (mem_own.1 hm)] at this; omega), hqt.up (fun k hk => (hq.lt k hk).2)⟩


theorem Wo.grown9 {w0 : World} {T : Nat → Nat} {w : World} {wb : Nat} {A B : Ends} {m win : Nat} {V : Six} {lA lB : List (Pk × Value)} {s : St} (h : Wo w0 T w wb A B m win V lA lB s) {W w' : World} (hW : Kept [] w W) (hg : W.grownBy w' V.tB.ownBlock) : Kept V.tB.ownBlock.toList w w' ∧ w'.cell? ⟨wb, 0 + 7, none⟩ = some V.tB ∧ w'.frozen? ⟨wb, 0 + 7, none⟩ = false := by
  have hk : Kept V.tB.ownBlock.toList w w' := (hW.mono (by simp)).grown hg (fun k hk _ => mem_own.2 hk)
  have hb := hk.blk h.blk (fun hm => by have := h.t9 _ (mem_own.1 hm); rw [h.t3] at this; omega)
  exact ⟨hk, cell_of hb, frozen_of hb⟩
theorem Wo.put9 {w0 : World} {T : Nat → Nat} {w : World} {wb : Nat} {A B : Ends} {m win : Nat} {V : Six} {lA lB : List (Pk × Value)} {s : St} (h : Wo w0 T w wb A B m win V lA lB s) {W w' : World} (hW : Kept [] w W) (hg : W.grownBy w' V.tB.ownBlock) (v' : Value) (q : Pk × Value) (hq : OwnL 0 9 w q.2 q.1.items) (hqt : Tag T 10 q.2) (hO : Own 0 45 5 w' v' (lB.length + 1) (rows lB ++ rowOf q)) (hT : ∀ k, v'.ownBlock = some k → V.tB.ownBlock = some k ∨ W.heap.size ≤ k) :
    Wo w0 (up T w.heap.size 9) (w'.setCell ⟨wb, 0 + 7, none⟩ v') wb A B m win { V with tB := v' } lA (lB ++ [q]) { s with tB := s.tB ++ [q.1] } := by
  obtain ⟨hk, _, _⟩ := h.grown9 hW hg
  have hwb : wb ∉ V.tB.ownBlock.toList := fun hm => by have := h.t9 _ (mem_own.1 hm); rw [h.t3] at this; omega
  have hb := hk.blk h.blk hwb
  have hlw := lt_of_blk h.blk
  have hWs := hW.size
  have hk2 : Kept (wb :: V.tB.ownBlock.toList) w (w'.setCell ⟨wb, 0 + 7, none⟩ v') := (hk.mono (by simp; intro a ha; exact .inr ha)).setCell (by simp) _
  have hset : Kept [wb] w' (w'.setCell ⟨wb, 0 + 7, none⟩ v') := (Kept.refl _ _).setCell (by simp) _
  have hvb : NotIn [wb] v' := fun k hk hm => by
    simp at hm
    subst hm
    rcases hT _ hk with h1 | h1
    · exact hwb (mem_own.2 h1)
    · omega
  have htag : Tag (up T w.heap.size 9) 9 v' := fun k hk => by
    rcases hT k hk with h1 | h1
    · rw [up_old (h.tB.lt k h1).2]; exact h.t9 k h1
    · rw [up_new (by omega)]

  refine h.carry hk2 (fun z => z == 9 || z == 3) rfl ?_ 9 { V with tB := v' } lA (lB ++ [q]) { s with tB := s.tB ++ [q.1] } (by rw [show ((3 : Nat) == 9 || (3 : Nat) == 3) = true from rfl, cond_true]; exact (blk_set hb v').trans rfl) ⟨rfl, rfl, rfl, rfl⟩ ⟨rfl, rfl, rfl, rfl⟩ ⟨rfl, rfl⟩ ⟨rfl, rfl⟩ ⟨rfl, rfl⟩ ⟨rfl, rfl⟩ ⟨rfl, rfl, rfl⟩ ⟨?_, htag, by simp [h.fB], fun q' hq' => ?_⟩ rfl
  · intro k hk
    rcases List.mem_cons.1 hk with rfl | hk
    · rw [h.t3]; rfl
    · rw [h.t9 k (mem_own.1 hk)]; rfl
  · rw [List.length_append, rows_append]
    simp only [rows, List.append_nil]
    exact hO.kept hset hvb
  · rcases List.mem_append.1 hq' with h1 | h1
    · exact .inl h1
    · simp at h1
      subst h1
      exact .inr ⟨hq.kept hk2 (fun k hk hm => by
        rcases List.mem_cons.1 hm with rfl | hm
        · have := hqt _ hk; rw [h.t3] at this; omega
        · have := hqt _ hk; rw [h.t9 _ (mem_own.1 hm)] at this; omega), hqt.up (fun k hk => (hq.lt k hk).2)⟩


end Go.Proofs.Ytagemhmjpfldoaa
