/- Packets that go to and fro: what is left grows less, round by round. -/
import Derived.Test.YtagemhmjpfldoaaLinkPlain
namespace Go.Proofs.Ytagemhmjpfldoaa
set_option linter.unusedVariables false
set_option linter.unusedSimpArgs false

/-- A packet to b, then one to a. -/
def St.round (s : St) (m win : Nat) : St := (s.inB m (s.outA win)).inA m ((s.inB m (s.outA win)).outB win)
theorem Inv.round {m win : Nat} {s : St} (h : Inv m win s) : Inv m win (s.round m win) := by
  have h1 := h.inB h.okA
  exact h1.inA h1.okB
theorem round_next {m win : Nat} {s : St} (h : Inv m win s) (hA : s.liA = []) (hB : s.liB = []) :
    (s.round m win).loA.length = s.loA.length - min s.loA.length win ∧ s.pB.length - (s.round m win).nxA = (s.pB.length - s.nxA) - min (s.pB.length - s.nxA) win ∧ (s.round m win).loB.length = s.pB.length - s.nxA := by
  have a1 := h.ab.ll
  have a2 := h.ab.an
  have a3 := h.ab.nw
  have a4 := h.ab.np
  have a5 := h.ab.mo
  have b1 := h.ba.ll
  have b2 := h.ba.an
  have b3 := h.ba.nw
  have b4 := h.ba.np
  have b5 := h.ba.mo
  simp only [St.round, St.inA, St.inB, St.outA, St.outB, kin, hA, hB, List.length_drop, List.length_take, List.length_nil]
  refine ⟨by omega, by omega, by omega⟩
/-- Behind r rounds. -/
structure Rnd (LA LB r : Nat) (s : St) : Prop where
  pA : s.pA.length = LA
  pB : s.pB.length = LB
  em : 1 ≤ r → s.liA = [] ∧ s.liB = []
  lA : 1 ≤ r → s.loA.length = 0 ∨ s.loA.length + r ≤ LA + 1
  rB : 1 ≤ r → LB - s.nxA = 0 ∨ LB - s.nxA + r ≤ LB + 1
  lB : 2 ≤ r → s.loB.length = 0 ∨ s.loB.length + r ≤ LB + 2
/-- Things were taken, and no more. -/
structure Tak (s s' : St) : Prop where
  pA : s'.pA = s.pA
  pB : s'.pB = s.pB
  loA : s'.loA = s.loA
  loB : s'.loB = s.loB
  nxA : s'.nxA = s.nxA
theorem Tak.refl (s : St) : Tak s s := ⟨rfl, rfl, rfl, rfl, rfl⟩
theorem Tak.trans {a b c : St} (h : Tak a b) (k : Tak b c) : Tak a c := ⟨k.pA.trans h.pA, k.pB.trans h.pB, k.loA.trans h.loA, k.loB.trans h.loB, k.nxA.trans h.nxA⟩
theorem takeA_facts (s : St) : Tak s s.takeA ∧ s.takeA.liA.length = s.liA.length - 1 ∧ s.takeA.liB = s.liB ∧ s.takeA.tA = s.tA ∧ s.takeA.tB = s.tB := by
  unfold St.takeA
  split
  · rename_i h; exact ⟨Tak.refl s, by simp [h], rfl, rfl, rfl⟩
  · rename_i h; exact ⟨⟨rfl, rfl, rfl, rfl, rfl⟩, by simp [h], rfl, rfl, rfl⟩
theorem takeB_facts (s : St) : Tak s s.takeB ∧ s.takeB.liB.length = s.liB.length - 1 ∧ s.takeB.liA = s.liA ∧ s.takeB.tA = s.tA ∧ s.takeB.tB = s.tB := by
  unfold St.takeB
  split
  · rename_i h; exact ⟨Tak.refl s, by simp [h], rfl, rfl, rfl⟩
  · rename_i h; exact ⟨⟨rfl, rfl, rfl, rfl, rfl⟩, by simp [h], rfl, rfl, rfl⟩
theorem Rnd.next {LA LB r m win : Nat} {s s' : St} (h : Rnd LA LB r s) (hi : Inv m win s) (hw : 1 ≤ win) (hi' : Inv m win s') (ht : Tak (s.round m win) s') (hA : s'.liA = []) (hB : s'.liB = []) : Rnd LA LB (r + 1) s' := by
  have e1 : s'.pA.length = LA := by rw [ht.pA]; exact h.pA
  have e2 : s'.pB.length = LB := by rw [ht.pB]; exact h.pB
  have l1 := hi'.ab.ll
  have l2 := hi'.ba.ll
  rcases Nat.eq_zero_or_pos r with h0 | hr
  · subst h0
    refine ⟨e1, e2, fun _ => ⟨hA, hB⟩, fun _ => .inr (by omega), fun _ => .inr (by omega), fun h => by omega⟩
  · obtain ⟨ea, eb⟩ := h.em hr
    obtain ⟨n1, n2, n3⟩ := round_next hi ea eb
    rw [h.pB] at n2 n3
    have q1 := h.lA hr
    have q2 := h.rB hr
    refine ⟨e1, e2, fun _ => ⟨hA, hB⟩, fun _ => ?_, fun _ => ?_, fun _ => ?_⟩
    · rw [ht.loA]; omega
    · rw [ht.nxA]; omega
    · rw [ht.loB]; omega
theorem Rnd.done {LA LB m win : Nat} {s : St} (h : Rnd LA LB (2 * (LA + LB) + 2) s) (hi : Inv m win s) : s.gA.length = s.pB.length ∧ s.gB.length = s.pA.length ∧ s.loA.length = 0 ∧ s.loB.length = 0 := by
  have q1 := h.lA (by omega)
  have q2 := h.lB (by omega)
  obtain ⟨e1, e2⟩ := h.em (by omega)
  have l1 := hi.ab.ll
  have l2 := hi.ba.ll
  have p1 := h.pA
  have p2 := h.pB
  have g1 := hi.ab.gn
  have g2 := hi.ba.gn
  have a1 := hi.ab.an
  have a2 := hi.ba.an
  have n1 := hi.ab.np
  have n2 := hi.ba.np
  rw [e1] at g2
  rw [e2] at g1
  simp only [List.length_nil] at g1 g2
  refine ⟨by omega, by omega, by omega, by omega⟩
theorem _root_.Go.Calls.quiet_at {P : Program} {f : FuncId} {args : Array Value} {w : World} {n nq : Nat} {v : Value}
    (h : Calls P f args (w.drewN (nq + n)) fun e w' => e = .returned v ∧ ∃ m, w' = (w.drewN (nq + n)).drewN m) : Calls P f args (w.drewN (nq + n)) fun e w'' => e = .returned v ∧ ∃ m, w'' = w.drewN (nq + m) :=
  h.mono fun _ _ ⟨he, m, hm⟩ => ⟨he, n + m, by rw [hm, World.drewN_drewN, Nat.add_assoc]⟩
theorem _root_.Go.Calls.quiet_at_same {P : Program} {f : FuncId} {args : Array Value} {w : World} {n nq : Nat} {v : Value}
    (h : Calls P f args (w.drewN (nq + n)) fun e w' => e = .returned v ∧ w' = w.drewN (nq + n)) : Calls P f args (w.drewN (nq + n)) fun e w'' => e = .returned v ∧ ∃ m, w'' = w.drewN (nq + m) :=
  h.mono fun _ _ ⟨he, hm⟩ => ⟨he, n, hm⟩
end Go.Proofs.Ytagemhmjpfldoaa
