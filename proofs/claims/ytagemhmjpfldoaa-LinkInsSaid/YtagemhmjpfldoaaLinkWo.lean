/- The law's world in memory: two ends, six slices, packets under way; each of its blocks is of one class, and classes lie apart. -/
import Derived.Test.YtagemhmjpfldoaaLinkPlain
import Derived.Test.YtagemhmjpfldoaaLinkAwake
import Derived.Test.YtagemhmjpfldoaaSteps
namespace Go.Proofs.Ytagemhmjpfldoaa
open Go.RowKit
set_option linter.unusedVariables false
set_option linter.unusedSimpArgs false

/-- The six slice values of the law's world. -/
structure Six where
  pA : Value
  pB : Value
  gA : Value
  gB : Value
  tA : Value
  tB : Value
/-- A packet's five cells. -/
def rowOf (q : Pk × Value) : List Value := [.int .u64 4, .int .i64 2, .int .u64 (q.1.base : Int), q.2, .int .u64 (q.1.ack : Int)]
def rows : List (Pk × Value) → List Value
  | [] => []
  | q :: l => rowOf q ++ rows l
theorem rows_length : ∀ l, (rows l).length = l.length * 5
  | [] => rfl
  | q :: l => by simp [rows, rows_length l, rowOf]; omega
theorem rows_append : ∀ l l', rows (l ++ l') = rows l ++ rows l'
  | [], l' => rfl
  | q :: l, l' => by simp [rows, rows_append l l']
theorem rows_get : ∀ (l : List (Pk × Value)) (i : Nat) (h : i < l.length) (j : Nat) (hj : j < 5), (rows l)[i * 5 + j]? = (rowOf l[i])[j]?
  | q :: l, 0, h, j, hj => by simp [rows]; rw [List.getElem?_append_left (by simp [rowOf]; omega)]
  | q :: l, i + 1, h, j, hj => by
    simp only [rows, List.getElem_cons_succ]
    rw [List.getElem?_append_right (by simp [rowOf]; omega), ← rows_get l i (by simpa using h) j hj]
    congr 1
    simp [rowOf]; omega

def Tag (T : Nat → Nat) (c : Nat) (v : Value) : Prop := ∀ k, v.ownBlock = some k → T k = c
/-- New blocks are of class c. -/
def up (T : Nat → Nat) (n c : Nat) : Nat → Nat := fun k => if k < n then T k else c
theorem up_old {T : Nat → Nat} {n c k : Nat} (h : k < n) : up T n c k = T k := by simp [up, h]
theorem up_new {T : Nat → Nat} {n c k : Nat} (h : n ≤ k) : up T n c k = c := by simp [up]; omega

structure Wo (w0 : World) (T : Nat → Nat) (w : World) (wb : Nat) (A B : Ends) (m win : Nat) (V : Six) (lA lB : List (Pk × Value)) (s : St) : Prop where
  blk : w.heap[wb]? = some (.cells #[.pointer (some ⟨A.k, 0, none⟩), .pointer (some ⟨B.k, 0, none⟩), V.pA, V.pB, V.gA, V.gB, V.tA, V.tB] 37 (0, 0))
  a : LSt.Link w A m win s.ackA s.loA s.nxA s.liA
  b : LIn.Link w B m win s.ackB s.loB s.nxB s.liB
  pA : OwnL 0 9 w V.pA s.pA
  pB : OwnL 0 3 w V.pB s.pB
  gA : OwnL 0 3 w V.gA s.gA
  gB : OwnL 0 9 w V.gB s.gB
  tA : Own 0 49 5 w V.tA lA.length (rows lA)
  tB : Own 0 45 5 w V.tB lB.length (rows lB)
  sA : ∀ q ∈ lA, OwnL 0 3 w q.2 q.1.items
  sB : ∀ q ∈ lB, OwnL 0 9 w q.2 q.1.items
  k : Kept [] w0 w
  fA : s.tA = lA.map Prod.fst
  fB : s.tB = lB.map Prod.fst
  eA : A.N = 4 ∧ A.P = 2
  eB : B.N = 4 ∧ B.P = 2
  t1 : ∀ x ∈ A.all, T x = 1
  t2 : ∀ x ∈ B.all, T x = 2
  t3 : T wb = 3
  t4 : Tag T 4 V.pA
  t5 : Tag T 5 V.pB
  t6 : Tag T 6 V.gA
  t7 : Tag T 7 V.gB
  t8 : Tag T 8 V.tA
  t9 : Tag T 9 V.tB
  tsA : ∀ q ∈ lA, Tag T 10 q.2
  tsB : ∀ q ∈ lB, Tag T 10 q.2
  low : ∀ k, T k ≠ 0 → w0.heap.size ≤ k
  oA : ∀ x ∈ s.pA, ∃ v : ByteArray, x = .string v
  oB : ∀ x ∈ s.pB, ∃ v : Int, x = .int .i64 v
  win32 : win ≤ 32

theorem Tag.up {T : Nat → Nat} {c n d : Nat} {v : Value} (h : Tag T c v) (hl : ∀ k, v.ownBlock = some k → k < n) : Tag (Go.Proofs.Ytagemhmjpfldoaa.up T n d) c v := fun k hk => by rw [up_old (hl k hk)]; exact h k hk
theorem Tag.out {T : Nat → Nat} {c : Nat} {v : Value} {S : List Nat} {C : Nat → Bool} (h : Tag T c v) (hS : ∀ k ∈ S, C (T k) = true) (hc : C c = false) : NotIn S v := fun k hk hm => by
  have h1 := hS k hm
  rw [h k hk, hc] at h1
  cases h1
theorem Own.lt' {base : Nat} {E : TypeId} {sz : Nat} {w : World} {v : Value} {n : Nat} {xs : List Value} (h : Own base E sz w v n xs) : ∀ k, v.ownBlock = some k → k < w.heap.size := fun k hk => (h.lt k hk).2

/-- Blocks of the classes C were written; what is of another class stands as it stood. -/
theorem Wo.carry {w0 : World} {T : Nat → Nat} {w : World} {wb : Nat} {A B : Ends} {m win : Nat} {V : Six} {lA lB : List (Pk × Value)} {s : St} (h : Wo w0 T w wb A B m win V lA lB s)
    {S : List Nat} {w' : World} (hk : Kept S w w') (C : Nat → Bool) (hC : C 0 = false) (hS : ∀ k ∈ S, C (T k) = true) (d : Nat) (V' : Six) (lA' lB' : List (Pk × Value)) (s' : St)
    (blk : cond (C 3) (w'.heap[wb]? = some (.cells #[.pointer (some ⟨A.k, 0, none⟩), .pointer (some ⟨B.k, 0, none⟩), V'.pA, V'.pB, V'.gA, V'.gB, V'.tA, V'.tB] 37 (0, 0))) (V' = V))
    (a : cond (C 1) (LSt.Link w' A m win s'.ackA s'.loA s'.nxA s'.liA) (s'.ackA = s.ackA ∧ s'.loA = s.loA ∧ s'.nxA = s.nxA ∧ s'.liA = s.liA))
    (b : cond (C 2) (LIn.Link w' B m win s'.ackB s'.loB s'.nxB s'.liB) (s'.ackB = s.ackB ∧ s'.loB = s.loB ∧ s'.nxB = s.nxB ∧ s'.liB = s.liB))
    (pA : cond (C 4) (OwnL 0 9 w' V'.pA s'.pA ∧ Tag (up T w.heap.size d) 4 V'.pA ∧ ∀ x ∈ s'.pA, ∃ v : ByteArray, x = .string v) (V'.pA = V.pA ∧ s'.pA = s.pA))
    (pB : cond (C 5) (OwnL 0 3 w' V'.pB s'.pB ∧ Tag (up T w.heap.size d) 5 V'.pB ∧ ∀ x ∈ s'.pB, ∃ v : Int, x = .int .i64 v) (V'.pB = V.pB ∧ s'.pB = s.pB))
    (gA : cond (C 6) (OwnL 0 3 w' V'.gA s'.gA ∧ Tag (up T w.heap.size d) 6 V'.gA) (V'.gA = V.gA ∧ s'.gA = s.gA))
    (gB : cond (C 7) (OwnL 0 9 w' V'.gB s'.gB ∧ Tag (up T w.heap.size d) 7 V'.gB) (V'.gB = V.gB ∧ s'.gB = s.gB))
    (tA : cond (C 8) (Own 0 49 5 w' V'.tA lA'.length (rows lA') ∧ Tag (up T w.heap.size d) 8 V'.tA ∧ s'.tA = lA'.map Prod.fst ∧ ∀ q ∈ lA', q ∈ lA ∨ (OwnL 0 3 w' q.2 q.1.items ∧ Tag (up T w.heap.size d) 10 q.2)) (V'.tA = V.tA ∧ lA' = lA ∧ s'.tA = s.tA))
    (tB : cond (C 9) (Own 0 45 5 w' V'.tB lB'.length (rows lB') ∧ Tag (up T w.heap.size d) 9 V'.tB ∧ s'.tB = lB'.map Prod.fst ∧ ∀ q ∈ lB', q ∈ lB ∨ (OwnL 0 9 w' q.2 q.1.items ∧ Tag (up T w.heap.size d) 10 q.2)) (V'.tB = V.tB ∧ lB' = lB ∧ s'.tB = s.tB))
    (hC10 : C 10 = false) : Wo w0 (up T w.heap.size d) w' wb A B m win V' lA' lB' s' := by
  have hlA := h.a.lt
  have hlB := h.b.lt
  have hlw := lt_of_blk h.blk
  have hsz := h.k.size
  have out : ∀ (c : Nat) (v : Value), Tag T c v → C c = false → NotIn S v := fun c v ht hc => ht.out hS hc
  have blk' : w'.heap[wb]? = some (.cells #[.pointer (some ⟨A.k, 0, none⟩), .pointer (some ⟨B.k, 0, none⟩), V'.pA, V'.pB, V'.gA, V'.gB, V'.tA, V'.tB] 37 (0, 0)) := by
    cases hc : C 3 <;> rw [hc] at blk
    · rw [cond_false] at blk
      rw [blk]
      exact hk.blk h.blk (fun hm => by have := hS _ hm; rw [h.t3, hc] at this; cases this)
    · exact blk
  have a' : LSt.Link w' A m win s'.ackA s'.loA s'.nxA s'.liA := by
    cases hc : C 1 <;> rw [hc] at a
    · rw [cond_false] at a
      obtain ⟨e1, e2, e3, e4⟩ := a
      rw [e1, e2, e3, e4]
      exact h.a.kept hk (fun x hx hm => by have := hS x hm; rw [h.t1 x hx, hc] at this; cases this)
    · exact a
  have b' : LIn.Link w' B m win s'.ackB s'.loB s'.nxB s'.liB := by
    cases hc : C 2 <;> rw [hc] at b
    · rw [cond_false] at b
      obtain ⟨e1, e2, e3, e4⟩ := b
      rw [e1, e2, e3, e4]
      exact h.b.kept hk (fun x hx hm => by have := hS x hm; rw [h.t2 x hx, hc] at this; cases this)
    · exact b
  have pA' : OwnL 0 9 w' V'.pA s'.pA ∧ Tag (up T w.heap.size d) 4 V'.pA ∧ ∀ x ∈ s'.pA, ∃ v : ByteArray, x = .string v := by
    cases hc : C 4 <;> rw [hc] at pA
    · rw [cond_false] at pA
      obtain ⟨e1, e2⟩ := pA
      rw [e1, e2]
      exact ⟨h.pA.kept hk (out 4 _ h.t4 hc), h.t4.up (fun k hk => (h.pA.lt k hk).2), h.oA⟩
    · exact pA
  have pB' : OwnL 0 3 w' V'.pB s'.pB ∧ Tag (up T w.heap.size d) 5 V'.pB ∧ ∀ x ∈ s'.pB, ∃ v : Int, x = .int .i64 v := by
    cases hc : C 5 <;> rw [hc] at pB
    · rw [cond_false] at pB
      obtain ⟨e1, e2⟩ := pB
      rw [e1, e2]
      exact ⟨h.pB.kept hk (out 5 _ h.t5 hc), h.t5.up (fun k hk => (h.pB.lt k hk).2), h.oB⟩
    · exact pB
  have gA' : OwnL 0 3 w' V'.gA s'.gA ∧ Tag (up T w.heap.size d) 6 V'.gA := by
    cases hc : C 6 <;> rw [hc] at gA
    · rw [cond_false] at gA
      obtain ⟨e1, e2⟩ := gA
      rw [e1, e2]
      exact ⟨h.gA.kept hk (out 6 _ h.t6 hc), h.t6.up (fun k hk => (h.gA.lt k hk).2)⟩
    · exact gA
  have gB' : OwnL 0 9 w' V'.gB s'.gB ∧ Tag (up T w.heap.size d) 7 V'.gB := by
    cases hc : C 7 <;> rw [hc] at gB
    · rw [cond_false] at gB
      obtain ⟨e1, e2⟩ := gB
      rw [e1, e2]
      exact ⟨h.gB.kept hk (out 7 _ h.t7 hc), h.t7.up (fun k hk => (h.gB.lt k hk).2)⟩
    · exact gB
  have oldA : ∀ q ∈ lA, OwnL 0 3 w' q.2 q.1.items ∧ Tag (up T w.heap.size d) 10 q.2 := fun q hq =>
    ⟨(h.sA q hq).kept hk (out 10 _ (h.tsA q hq) hC10), (h.tsA q hq).up (fun k hk => ((h.sA q hq).lt k hk).2)⟩
  have tA' : Own 0 49 5 w' V'.tA lA'.length (rows lA') ∧ Tag (up T w.heap.size d) 8 V'.tA ∧ s'.tA = lA'.map Prod.fst ∧ ∀ q ∈ lA', OwnL 0 3 w' q.2 q.1.items ∧ Tag (up T w.heap.size d) 10 q.2 := by
    cases hc : C 8 <;> rw [hc] at tA
    · rw [cond_false] at tA
      obtain ⟨e1, e2, e3⟩ := tA
      rw [e1, e2, e3]
      exact ⟨h.tA.kept hk (out 8 _ h.t8 hc), h.t8.up (fun k hk => (h.tA.lt k hk).2), h.fA, oldA⟩
    · rw [cond_true] at tA
      exact ⟨tA.1, tA.2.1, tA.2.2.1, fun q hq => (tA.2.2.2 q hq).elim (oldA q) id⟩
  have oldB : ∀ q ∈ lB, OwnL 0 9 w' q.2 q.1.items ∧ Tag (up T w.heap.size d) 10 q.2 := fun q hq =>
    ⟨(h.sB q hq).kept hk (out 10 _ (h.tsB q hq) hC10), (h.tsB q hq).up (fun k hk => ((h.sB q hq).lt k hk).2)⟩
  have tB' : Own 0 45 5 w' V'.tB lB'.length (rows lB') ∧ Tag (up T w.heap.size d) 9 V'.tB ∧ s'.tB = lB'.map Prod.fst ∧ ∀ q ∈ lB', OwnL 0 9 w' q.2 q.1.items ∧ Tag (up T w.heap.size d) 10 q.2 := by
    cases hc : C 9 <;> rw [hc] at tB
    · rw [cond_false] at tB
      obtain ⟨e1, e2, e3⟩ := tB
      rw [e1, e2, e3]
      exact ⟨h.tB.kept hk (out 9 _ h.t9 hc), h.t9.up (fun k hk => (h.tB.lt k hk).2), h.fB, oldB⟩
    · rw [cond_true] at tB
      exact ⟨tB.1, tB.2.1, tB.2.2.1, fun q hq => (tB.2.2.2 q hq).elim (oldB q) id⟩
  have lowk : ∀ k, T k ≠ 0 → w0.heap.size ≤ k := h.low
  exact {
    blk := blk', a := a', b := b', pA := pA'.1, pB := pB'.1, gA := gA'.1, gB := gB'.1, tA := tA'.1, tB := tB'.1, sA := fun q hq => (tA'.2.2.2 q hq).1, sB := fun q hq => (tB'.2.2.2 q hq).1
    k := h.k.join hk (fun i hi hlt => by
      have h1 := hS i hi
      by_cases h0 : T i = 0
      · rw [h0, hC] at h1; cases h1
      · have := h.low i h0; omega)
    fA := tA'.2.2.1, fB := tB'.2.2.1, eA := h.eA, eB := h.eB
    t1 := fun x hx => by rw [up_old (hlA x hx)]; exact h.t1 x hx
    t2 := fun x hx => by rw [up_old (hlB x hx)]; exact h.t2 x hx
    t3 := by rw [up_old hlw]; exact h.t3
    t4 := pA'.2.1, t5 := pB'.2.1, t6 := gA'.2, t7 := gB'.2, t8 := tA'.2.1, t9 := tB'.2.1, tsA := fun q hq => (tA'.2.2.2 q hq).2, tsB := fun q hq => (tB'.2.2.2 q hq).2
    low := fun k hk => by
      by_cases hl : k < w.heap.size
      · rw [up_old hl] at hk; exact h.low k hk
      · omega
    oA := pA'.2.2, oB := pB'.2.2, win32 := h.win32 }
theorem Wo.still {w0 : World} {T : Nat → Nat} {w : World} {wb : Nat} {A B : Ends} {m win : Nat} {V : Six} {lA lB : List (Pk × Value)} {s : St} (h : Wo w0 T w wb A B m win V lA lB s) {w' : World} (hk : Kept [] w w') (d : Nat) :
    Wo w0 (up T w.heap.size d) w' wb A B m win V lA lB s :=
  h.carry hk (fun _ => false) rfl (by simp) d V lA lB s rfl ⟨rfl, rfl, rfl, rfl⟩ ⟨rfl, rfl, rfl, rfl⟩ ⟨rfl, rfl⟩ ⟨rfl, rfl⟩ ⟨rfl, rfl⟩ ⟨rfl, rfl⟩ ⟨rfl, rfl, rfl⟩ ⟨rfl, rfl, rfl⟩ rfl
/-- The cells of the law's world. -/
theorem Wo.cells {w0 : World} {T : Nat → Nat} {w : World} {wb : Nat} {A B : Ends} {m win : Nat} {V : Six} {lA lB : List (Pk × Value)} {s : St} (h : Wo w0 T w wb A B m win V lA lB s) :
    w.cell? ⟨wb, 0, none⟩ = some (.pointer (some ⟨A.k, 0, none⟩)) ∧ w.cell? ⟨wb, 0 + 1, none⟩ = some (.pointer (some ⟨B.k, 0, none⟩)) ∧ w.cell? ⟨wb, 0 + 2, none⟩ = some V.pA ∧ w.cell? ⟨wb, 0 + 3, none⟩ = some V.pB ∧
      w.cell? ⟨wb, 0 + 4, none⟩ = some V.gA ∧ w.cell? ⟨wb, 0 + 5, none⟩ = some V.gB ∧ w.cell? ⟨wb, 0 + 6, none⟩ = some V.tA ∧ w.cell? ⟨wb, 0 + 7, none⟩ = some V.tB :=
  ⟨cell_of h.blk, cell_of h.blk, cell_of h.blk, cell_of h.blk, cell_of h.blk, cell_of h.blk, cell_of h.blk, cell_of h.blk⟩
/-- Just begun. -/
theorem Wo.of_begin {w0 w1 w : World} {wb : Nat} {A B : Ends} {m win : Nat} (hA1 : A.N = 4) (hA2 : A.P = 2) (hB1 : B.N = 4) (hB2 : B.P = 2)
    (hb : w.heap[wb]? = some (.cells #[.pointer (some ⟨A.k, 0, none⟩), .pointer (some ⟨B.k, 0, none⟩), .slice none 0 0, .slice none 0 0, .slice none 0 0, .slice none 0 0, .slice none 0 0, .slice none 0 0] 37 (0, 0)))
    (hLA : LSt.Link w A m win 0 [] 0 []) (hLB : LIn.Link w B m win 0 [] 0 []) (hK0 : Kept [] w0 w1) (hK : Kept [] w1 w) (hwb : w1.heap.size ≤ wb) (hfA : ∀ x ∈ A.all, w1.heap.size ≤ x) (hfB : ∀ x ∈ B.all, w1.heap.size ≤ x)
    (hAB : ∀ x ∈ A.all, x ∉ B.all) (hwA : wb ∉ A.all) (hwB : wb ∉ B.all) (hwin : win ≤ 32) :
    ∃ T, Wo w0 T w wb A B m win ⟨.slice none 0 0, .slice none 0 0, .slice none 0 0, .slice none 0 0, .slice none 0 0, .slice none 0 0⟩ [] [] .zero := by
  have hsz := hK0.size
  refine ⟨fun k => if k ∈ A.all then 1 else if k ∈ B.all then 2 else if k = wb then 3 else 0, ?_⟩
  exact {
    blk := hb, a := hLA, b := hLB, pA := OwnL.nil _ _ _, pB := OwnL.nil _ _ _, gA := OwnL.nil _ _ _, gB := OwnL.nil _ _ _, tA := Own.nil _ _ _ _, tB := Own.nil _ _ _ _, sA := by simp, sB := by simp
    k := hK0.trans hK, fA := rfl, fB := rfl, eA := ⟨hA1, hA2⟩, eB := ⟨hB1, hB2⟩
    t1 := fun x hx => by simp [hx]
    t2 := fun x hx => by have : x ∉ A.all := fun h => hAB x h hx; simp [hx, this]
    t3 := by simp [hwA, hwB]
    t4 := by intro k hk; cases hk
    t5 := by intro k hk; cases hk
    t6 := by intro k hk; cases hk
    t7 := by intro k hk; cases hk
    t8 := by intro k hk; cases hk
    t9 := by intro k hk; cases hk
    tsA := by simp
    tsB := by simp
    low := fun k hk => by
      by_cases h1 : k ∈ A.all
      · have := hfA k h1; omega
      by_cases h2 : k ∈ B.all
      · have := hfB k h2; omega
      by_cases h3 : k = wb
      · omega
      simp [h1, h2, h3] at hk
    oA := by simp [St.zero]
    oB := by simp [St.zero]
    win32 := hwin }
end Go.Proofs.Ytagemhmjpfldoaa
