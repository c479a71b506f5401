/- Two ends and packets between them, in plain lists: what stays true. -/
import Derived.Test.YtagemhmjpfldoaaCore
namespace Go.Proofs.Ytagemhmjpfldoaa
set_option linter.unusedVariables false
set_option linter.unusedSimpArgs false

/-- One way: p was put, lo waits to be acked, ack of them are known to have come; nx have come, li waits there, g was taken. -/
structure Half (m win : Nat) (p g lo li : List Value) (ack nx : Nat) : Prop where
  gl : g ++ li = p.take nx
  lp : lo = p.drop ack
  an : ack ≤ nx
  nw : nx ≤ ack + win
  np : nx ≤ p.length
  mo : lo.length ≤ m
  mi : li.length ≤ m
theorem Half.ll {m win : Nat} {p g lo li : List Value} {ack nx : Nat} (h : Half m win p g lo li ack nx) : lo.length = p.length - ack := by rw [h.lp]; simp
theorem Half.gn {m win : Nat} {p g lo li : List Value} {ack nx : Nat} (h : Half m win p g lo li ack nx) : g.length + li.length = nx := by
  have := congrArg List.length h.gl
  simp at this
  have := h.np
  omega
theorem Half.pre {m win : Nat} {p g lo li : List Value} {ack nx : Nat} (h : Half m win p g lo li ack nx) : g = p.take g.length := by
  have h1 := h.gl
  have h2 := h.gn
  have h3 := congrArg (List.take g.length) h1
  rw [List.take_left, List.take_take] at h3
  rw [show min g.length nx = g.length by omega] at h3
  exact h3
theorem Half.nil {m win : Nat} : Half m win [] [] [] [] 0 0 := ⟨rfl, rfl, by simp, by simp, by simp, by simp, by simp⟩
theorem Half.put {m win : Nat} {p g lo li : List Value} {ack nx : Nat} (h : Half m win p g lo li ack nx) (hm : lo.length < m) (x : Value) : Half m win (p ++ [x]) g (lo ++ [x]) li ack nx := by
  have h1 := h.np
  have h2 := h.an
  refine ⟨?_, ?_, h.an, h.nw, by simp; omega, by simp; omega, h.mi⟩
  · rw [List.take_append_of_le_length h1]; exact h.gl
  · rw [List.drop_append_of_le_length (by omega), ← h.lp]
theorem Half.take {m win : Nat} {p g lo li : List Value} {x : Value} {ack nx : Nat} (h : Half m win p g lo (x :: li) ack nx) : Half m win p (g ++ [x]) lo li ack nx :=
  ⟨by rw [List.append_assoc]; exact h.gl, h.lp, h.an, h.nw, h.np, h.mo, by have := h.mi; simp at this; omega⟩
theorem Half.ackd {m win : Nat} {p g lo li : List Value} {ack nx : Nat} (h : Half m win p g lo li ack nx) (a : Nat) (ha : a ≤ nx) : Half m win p g (lo.drop (a - ack)) li (max ack a) nx := by
  have h1 := h.an
  have h2 := h.nw
  refine ⟨h.gl, ?_, by omega, by omega, h.np, ?_, h.mi⟩
  · rw [h.lp, List.drop_drop]; congr 1; omega
  · have := h.mo; simp; omega
/-- What came in of a packet. -/
def kin (m base nx : Nat) (items li : List Value) : Nat := min (items.length - (nx - base)) (m - li.length)
/-- A packet that was sent this way at some time. -/
structure Pok (win : Nat) (p : List Value) (ack nxb : Nat) (base : Nat) (items : List Value) (a : Nat) : Prop where
  b : base ≤ ack
  i : items = (p.drop base).take items.length
  w : items.length ≤ win
  a : a ≤ nxb
theorem Pok.grow {win : Nat} {p p' : List Value} {ack ack' nxb nxb' base : Nat} {items : List Value} {a : Nat} (h : Pok win p ack nxb base items a) (hp : ∃ t, p' = p ++ t) (h1 : ack ≤ ack') (h2 : nxb ≤ nxb') (hle : ack ≤ p.length) : Pok win p' ack' nxb' base items a := by
  obtain ⟨t, rfl⟩ := hp
  have hb := h.b
  refine ⟨by omega, ?_, h.w, by have := h.a; omega⟩
  have hl := congrArg List.length h.i
  simp only [List.length_take, List.length_drop] at hl
  rw [List.drop_append_of_le_length (by omega), List.take_append_of_le_length (by simp; omega)]
  exact h.i
theorem Half.recv {m win : Nat} {p g lo li : List Value} {ack nx : Nat} (h : Half m win p g lo li ack nx) {nxb base a : Nat} {items : List Value} (hp : Pok win p ack nxb base items a) :
    Half m win p g lo (li ++ (items.drop (nx - base)).take (kin m base nx items li)) ack (nx + kin m base nx items li) := by
  have h1 := h.an
  have h2 := h.nw
  have h3 := h.np
  have h4 := h.mi
  have hb := hp.b
  have hw := hp.w
  have hl := congrArg List.length hp.i
  simp only [List.length_take, List.length_drop] at hl
  have hk1 : kin m base nx items li ≤ items.length - (nx - base) := Nat.min_le_left _ _
  have hk2 : kin m base nx items li ≤ m - li.length := Nat.min_le_right _ _
  generalize kin m base nx items li = k at *
  refine ⟨?_, h.lp, by omega, by omega, by omega, h.mo, ?_⟩
  · have e : (items.drop (nx - base)).take k = (p.drop nx).take k := by
      rw [hp.i, List.drop_take, List.drop_drop, show base + (nx - base) = nx by omega, List.take_take, show min k (items.length - (nx - base)) = k by omega]
    rw [← List.append_assoc, h.gl, e, ← List.take_add]
  · simp; omega
/-- What an end sends just now. -/
theorem Half.sent {m win : Nat} {p g lo li : List Value} {ack nx : Nat} (h : Half m win p g lo li ack nx) (nxb : Nat) : Pok win p ack nxb ack (lo.take win) nxb := by
  refine ⟨Nat.le_refl _, ?_, by simp; omega, Nat.le_refl _⟩
  rw [h.lp, List.length_take, List.length_drop, List.take_eq_take_iff]
  simp

/-- A packet: from where, what, and what had come there. -/
structure Pk where
  base : Nat
  items : List Value
  ack : Nat
structure St where
  pA : List Value
  pB : List Value
  gA : List Value
  gB : List Value
  loA : List Value
  liA : List Value
  loB : List Value
  liB : List Value
  ackA : Nat
  nxA : Nat
  ackB : Nat
  nxB : Nat
  tA : List Pk
  tB : List Pk
def St.zero : St := ⟨[], [], [], [], [], [], [], [], 0, 0, 0, 0, [], []⟩
/-- All of it. -/
structure Inv (m win : Nat) (s : St) : Prop where
  ab : Half m win s.pA s.gB s.loA s.liB s.ackA s.nxB
  ba : Half m win s.pB s.gA s.loB s.liA s.ackB s.nxA
  tA : ∀ p ∈ s.tA, Pok win s.pB s.ackB s.nxB p.base p.items p.ack
  tB : ∀ p ∈ s.tB, Pok win s.pA s.ackA s.nxA p.base p.items p.ack
theorem Inv.zero (m win : Nat) : Inv m win .zero := ⟨Half.nil, Half.nil, by simp [St.zero], by simp [St.zero]⟩
def St.putA (s : St) (m : Nat) (x : Value) : St := if s.loA.length < m then { s with pA := s.pA ++ [x], loA := s.loA ++ [x] } else s
def St.putB (s : St) (m : Nat) (x : Value) : St := if s.loB.length < m then { s with pB := s.pB ++ [x], loB := s.loB ++ [x] } else s
def St.outA (s : St) (win : Nat) : Pk := ⟨s.ackA, s.loA.take win, s.nxA⟩
def St.outB (s : St) (win : Nat) : Pk := ⟨s.ackB, s.loB.take win, s.nxB⟩
def St.sendA (s : St) (win : Nat) : St := { s with tB := s.tB ++ [s.outA win] }
def St.sendB (s : St) (win : Nat) : St := { s with tA := s.tA ++ [s.outB win] }
/-- A packet comes to b. -/
def St.inB (s : St) (m : Nat) (p : Pk) : St :=
  { s with ackB := max s.ackB p.ack, loB := s.loB.drop (p.ack - s.ackB), nxB := s.nxB + kin m p.base s.nxB p.items s.liB, liB := s.liB ++ (p.items.drop (s.nxB - p.base)).take (kin m p.base s.nxB p.items s.liB) }
def St.inA (s : St) (m : Nat) (p : Pk) : St :=
  { s with ackA := max s.ackA p.ack, loA := s.loA.drop (p.ack - s.ackA), nxA := s.nxA + kin m p.base s.nxA p.items s.liA, liA := s.liA ++ (p.items.drop (s.nxA - p.base)).take (kin m p.base s.nxA p.items s.liA) }
def St.takeA (s : St) : St := match s.liA with
  | [] => s
  | x :: l => { s with gA := s.gA ++ [x], liA := l }
def St.takeB (s : St) : St := match s.liB with
  | [] => s
  | x :: l => { s with gB := s.gB ++ [x], liB := l }
def St.lose (s : St) : St := { s with tB := s.tB.tail }
theorem Inv.putA {m win : Nat} {s : St} (h : Inv m win s) (x : Value) : Inv m win (s.putA m x) := by
  unfold St.putA
  split
  · rename_i hlt
    exact ⟨h.ab.put hlt x, h.ba, h.tA, fun p hp => (h.tB p hp).grow ⟨_, rfl⟩ (Nat.le_refl _) (Nat.le_refl _) (by have := h.ab.an; have := h.ab.np; omega)⟩
  · exact h
theorem Inv.putB {m win : Nat} {s : St} (h : Inv m win s) (x : Value) : Inv m win (s.putB m x) := by
  unfold St.putB
  split
  · rename_i hlt
    exact ⟨h.ab, h.ba.put hlt x, fun p hp => (h.tA p hp).grow ⟨_, rfl⟩ (Nat.le_refl _) (Nat.le_refl _) (by have := h.ba.an; have := h.ba.np; omega), h.tB⟩
  · exact h
theorem Inv.okA {m win : Nat} {s : St} (h : Inv m win s) : Pok win s.pA s.ackA s.nxA (s.outA win).base (s.outA win).items (s.outA win).ack := h.ab.sent s.nxA
theorem Inv.okB {m win : Nat} {s : St} (h : Inv m win s) : Pok win s.pB s.ackB s.nxB (s.outB win).base (s.outB win).items (s.outB win).ack := h.ba.sent s.nxB
theorem Inv.sendA {m win : Nat} {s : St} (h : Inv m win s) : Inv m win (s.sendA win) :=
  ⟨h.ab, h.ba, h.tA, fun p hp => by
    rcases List.mem_append.1 hp with hp | hp
    · exact h.tB p hp
    · simp at hp; subst hp; exact h.okA⟩
theorem Inv.sendB {m win : Nat} {s : St} (h : Inv m win s) : Inv m win (s.sendB win) :=
  ⟨h.ab, h.ba, fun p hp => by
    rcases List.mem_append.1 hp with hp | hp
    · exact h.tA p hp
    · simp at hp; subst hp; exact h.okB, h.tB⟩
theorem Inv.inB {m win : Nat} {s : St} (h : Inv m win s) {p : Pk} (hp : Pok win s.pA s.ackA s.nxA p.base p.items p.ack) : Inv m win (s.inB m p) :=
  ⟨h.ab.recv hp, h.ba.ackd _ hp.a, fun q hq => (h.tA q hq).grow ⟨[], by simp [St.inB]⟩ (by simp [St.inB]; omega) (by simp [St.inB]) (by have := h.ba.an; have := h.ba.np; omega), h.tB⟩
theorem Inv.inA {m win : Nat} {s : St} (h : Inv m win s) {p : Pk} (hp : Pok win s.pB s.ackB s.nxB p.base p.items p.ack) : Inv m win (s.inA m p) :=
  ⟨h.ab.ackd _ hp.a, h.ba.recv hp, h.tA, fun q hq => (h.tB q hq).grow ⟨[], by simp [St.inA]⟩ (by simp [St.inA]; omega) (by simp [St.inA]) (by have := h.ab.an; have := h.ab.np; omega)⟩
theorem Inv.takeA {m win : Nat} {s : St} (h : Inv m win s) : Inv m win s.takeA := by
  unfold St.takeA
  split
  · exact h
  · rename_i x l hl
    have hb := h.ba
    rw [hl] at hb
    exact ⟨h.ab, hb.take, h.tA, h.tB⟩
theorem Inv.takeB {m win : Nat} {s : St} (h : Inv m win s) : Inv m win s.takeB := by
  unfold St.takeB
  split
  · exact h
  · rename_i x l hl
    have hb := h.ab
    rw [hl] at hb
    exact ⟨hb.take, h.ba, h.tA, h.tB⟩
theorem Inv.lose {m win : Nat} {s : St} (h : Inv m win s) : Inv m win s.lose := ⟨h.ab, h.ba, h.tA, fun p hp => h.tB p (List.mem_of_mem_tail hp)⟩
/-- What happens, by its kind. -/
def St.step (s : St) (m win : Nat) (k : Int) (x y : Value) (n : Int) : St :=
  if k % 9 = 0 then s.putA m x else if k % 9 = 1 then s.putB m y else if k % 9 = 2 then s.sendA win else if k % 9 = 3 then s.sendB win
  else if k % 9 = 4 then (match s.tB[((n % 18446744073709551616) % s.tB.length).toNat]? with | some p => s.inB m p | none => s)
  else if k % 9 = 5 then (match s.tA[((n % 18446744073709551616) % s.tA.length).toNat]? with | some p => s.inA m p | none => s)
  else if k % 9 = 6 then s.takeA else if k % 9 = 7 then s.takeB else s.lose
theorem Inv.step {m win : Nat} {s : St} (h : Inv m win s) (k : Int) (x y : Value) (n : Int) : Inv m win (s.step m win k x y n) := by
  unfold St.step
  repeat' split
  · exact h.putA x
  · exact h.putB y
  · exact h.sendA
  · exact h.sendB
  · rename_i hq; exact h.inB (h.tB _ (List.mem_of_getElem? hq))
  · exact h
  · rename_i hq; exact h.inA (h.tA _ (List.mem_of_getElem? hq))
  · exact h
  · exact h.takeA
  · exact h.takeB
  · exact h.lose
/-- No list is longer than c. -/
structure Small (c : Nat) (s : St) : Prop where
  pA : s.pA.length ≤ c
  pB : s.pB.length ≤ c
  tA : s.tA.length ≤ c
  tB : s.tB.length ≤ c
theorem Small.step {c m win : Nat} {s : St} (h : Small c s) (k : Int) (x y : Value) (n : Int) : Small (c + 1) (s.step m win k x y n) := by
  obtain ⟨h1, h2, h3, h4⟩ := h
  unfold St.step St.putA St.putB St.sendA St.sendB St.takeA St.takeB St.lose St.inA St.inB
  repeat' split
  all_goals exact ⟨by first | omega | (simp; omega), by first | omega | (simp; omega), by first | omega | (simp; omega), by first | omega | (simp; omega)⟩
theorem kin_again {m base nx : Nat} {items li : List Value} (hb : base ≤ nx) : kin m base (nx + kin m base nx items li) items (li ++ (items.drop (nx - base)).take (kin m base nx items li)) = 0 := by
  unfold kin
  simp only [List.length_append, List.length_take, List.length_drop]
  omega
theorem St.inB_zero (s : St) (m : Nat) (p : Pk) (h : kin m p.base s.nxB p.items s.liB = 0) : s.inB m p = { s with ackB := max s.ackB p.ack, loB := s.loB.drop (p.ack - s.ackB), nxB := s.nxB + 0, liB := s.liB ++ (p.items.drop (s.nxB - p.base)).take 0 } := by
  unfold St.inB
  rw [h]
end Go.Proofs.Ytagemhmjpfldoaa
