/- A map from numbers to numbers that are not nought, in plain words: what it holds at each key, how many there are. -/
import Derived.Test.YtkemkoiknoefdaaCore
import Derived.Maps.OwnSet
import Derived.Maps.OwnOps
namespace Go.Proofs.Ytkemkoiknoefdaa
open Go.RowKit Go.Maps Go.ChangeShapes Go.WideShapes
set_option linter.unusedVariables false
set_option linter.unusedSimpArgs false

theorem intKeys : Keyed Try.prog 3 := int_keyed Try.underlying3
theorem zeroU (w : World) : (zeroValue 45).run Try.prog w = .ok (.int .u64 0) w := by kernel_rfl

/-- Block mb is a map; at each key it holds d (nought: there is none); sz keys are there. -/
def Mp (w : World) (mb cnt : Nat) (d : Int → Nat) (sz : Nat) : Prop :=
  ∃ D : DataW Unit, w.ownsMap Try.prog 3 (plainElem Try.prog 45) mb cnt D ∧
    (∀ id : Int, (Lit.int .i64 id).wf = true → D.atKey (.int .i64 id) (.lit (.int .u64 0)) = .lit (.int .u64 (d id : Int)) ∧ Maps.has D (.int .i64 id) = decide (d id ≠ 0)) ∧ Maps.size D = sz

theorem Mp.made (w : World) : Mp (w.alloc (.map #[] 0)) w.heap.size 0 (fun _ => 0) 0 :=
  ⟨.map [], World.ownsMap_made _ _ _ _, fun id _ => ⟨rfl, rfl⟩, rfl⟩
theorem Mp.kept {S : List Nat} {w w' : World} {mb cnt sz : Nat} {d : Int → Nat} (h : Mp w mb cnt d sz) (hk : Kept S w w') (hS : mb ∉ S) : Mp w' mb cnt d sz := by
  obtain ⟨D, ⟨es, clock, hb, F, hs, hD⟩, h2, h3⟩ := h
  exact ⟨D, ⟨es, clock, hk.blk hb hS, F, hs, hD⟩, h2, h3⟩
theorem Mp.lt {w : World} {mb cnt sz : Nat} {d : Int → Nat} (h : Mp w mb cnt d sz) : mb < w.heap.size := by
  obtain ⟨D, h1, _⟩ := h
  exact h1.lt
theorem keyIs {id : Int} (h : (Lit.int .i64 id).wf = true) : keyOf Try.prog 3 (.int .i64 id) = some (.int .i64 id) := keyOf_int_mk Try.underlying3 h
theorem Mp.look {w : World} {mb cnt sz : Nat} {d : Int → Nat} (h : Mp w mb cnt d sz) {id : Int} (hw : (Lit.int .i64 id).wf = true) :
    (Instr.lookup 53 (.map (some mb)) (.int .i64 id) false).run Try.prog w = .ok (.int .u64 (d id : Int)) w := by
  obtain ⟨D, h1, h2, h3⟩ := h
  obtain ⟨c, hr, hat, _⟩ := h1.lookup_int intKeys Try.underlying53 Try.underlying45 (zeroU w) (keyIs hw)
  rw [(h2 id hw).1] at hat
  cases hat
  exact hr
theorem Mp.look_ok {w : World} {mb cnt sz : Nat} {d : Int → Nat} (h : Mp w mb cnt d sz) {id : Int} (hw : (Lit.int .i64 id).wf = true) :
    (Instr.lookup 53 (.map (some mb)) (.int .i64 id) true).run Try.prog w = .ok (.tuple #[.int .u64 (d id : Int), .bool (decide (d id ≠ 0))]) w := by
  obtain ⟨D, h1, h2, h3⟩ := h
  obtain ⟨v, ps, hr, hv⟩ := h1.look_ok intKeys Try.underlying53 (zeroU w) (plainElem_int Try.underlying45 (by decide)) (keyIs hw)
  obtain ⟨c, rfl, hc, _⟩ := plainElem_int_inv Try.underlying45 hv
  rw [(h2 id hw).1] at hc
  rw [(h2 id hw).2] at hr
  simp only [Prod.mk.injEq] at hc
  cases hc.1
  exact hr
theorem Mp.len {w : World} {mb cnt sz : Nat} {d : Int → Nat} (h : Mp w mb cnt d sz) (ty : TypeId) :
    (Builtin.len_ #[53] ty #[.map (some mb)]).run Try.prog w = .ok (.int .i64 (sz : Int)) w := by
  obtain ⟨D, h1, h2, h3⟩ := h
  rw [← h3]
  exact h1.len Try.underlying53 ty
theorem Mp.store {w : World} {mb cnt sz : Nat} {d : Int → Nat} (h : Mp w mb cnt d sz) (hc : cnt < maxLen) {id : Int} (hw : (Lit.int .i64 id).wf = true) (n : Nat) (hn : 1 ≤ n) (hn2 : n ≤ 18446744073709551615) :
    ∃ w', (Instr.mapUpdate 53 (.map (some mb)) (.int .i64 id) (.int .u64 (n : Int))).run Try.prog w = .ok () w' ∧ Mp w' mb (cnt + 1) (fun i => if i = id then n else d i) (if d id = 0 then sz + 1 else sz) ∧ Kept [mb] w w' := by
  obtain ⟨D, h1, h2, h3⟩ := h
  have hwn : (Lit.int .u64 (n : Int)).wf = true := by simp [Lit.wf, IntKind.min, IntKind.max, IntKind.signed, IntKind.bits]; omega
  obtain ⟨w', hr, ho, hg⟩ := h1.store intKeys Try.underlying53 hc (keyIs hw) (plainElem_int Try.underlying45 hwn)
  have hik : WideAt.IsKeyLit (.int .i64 id) := intKeys.key (keyIs hw)
  refine ⟨w', hr, ⟨_, ho, fun i hi => ?_, ?_⟩, ?_⟩
  · by_cases e : i = id
    · subst e
      show _ = DataW.lit (.int .u64 ((if i = i then _ else _ : Nat) : Int)) ∧ _ = decide ((if i = i then _ else _ : Nat) ≠ 0)
      rw [if_pos rfl]
      exact ⟨atKey_put_same h1.isMap hik _ _, by rw [has_put_same h1.isMap hik]; simp; omega⟩
    · show _ = DataW.lit (.int .u64 ((if i = id then _ else _ : Nat) : Int)) ∧ _ = decide ((if i = id then _ else _ : Nat) ≠ 0)
      rw [if_neg e]
      have hne : (Lit.int .i64 i) ≠ .int .i64 id := by simpa using e
      exact ⟨by rw [atKey_put_other hne]; exact (h2 i hi).1, by rw [has_put_other hne]; exact (h2 i hi).2⟩
  · rw [size_put (h1.tidy intKeys), (h2 id hw).2, h3]
    by_cases e : d id = 0 <;> simp [e]
  · have := hg.grown
    exact ⟨this.os, this.tape, this.output, this.size, fun k hk hn => this.block k hk (by simpa using hn)⟩
theorem Mp.drop {w : World} {mb cnt sz : Nat} {d : Int → Nat} (h : Mp w mb cnt d sz) {id : Int} (hw : (Lit.int .i64 id).wf = true) (ty : TypeId) :
    ∃ w', (Builtin.delete_ #[53, 3] ty #[.map (some mb), .int .i64 id]).run Try.prog w = .ok (.tuple #[]) w' ∧ Mp w' mb cnt (fun i => if i = id then 0 else d i) (if d id = 0 then sz else sz - 1) ∧ Kept [mb] w w' := by
  obtain ⟨D, h1, h2, h3⟩ := h
  obtain ⟨w', hr, ho, hg⟩ := h1.drop intKeys Try.underlying53 (keyIs hw) ty
  refine ⟨w', hr, ⟨_, ho, fun i hi => ?_, ?_⟩, ?_⟩
  · by_cases e : i = id
    · subst e
      show _ = DataW.lit (.int .u64 ((if i = i then _ else _ : Nat) : Int)) ∧ _ = decide ((if i = i then _ else _ : Nat) ≠ 0)
      rw [if_pos rfl]
      exact ⟨atKey_del_same _, by rw [has_del_same]; simp⟩
    · show _ = DataW.lit (.int .u64 ((if i = id then _ else _ : Nat) : Int)) ∧ _ = decide ((if i = id then _ else _ : Nat) ≠ 0)
      rw [if_neg e]
      have hne : (Lit.int .i64 i) ≠ .int .i64 id := by simpa using e
      exact ⟨by rw [atKey_del_other hne]; exact (h2 i hi).1, by rw [has_del_other hne]; exact (h2 i hi).2⟩
  · have := size_del (k := .int .i64 id) (h1.tidy intKeys)
    rw [(h2 id hw).2, h3] at this
    by_cases e : d id = 0
    · simp [e] at this ⊢; exact this
    · simp [e] at this ⊢; omega
  · have := hg.grown
    exact ⟨this.os, this.tape, this.output, this.size, fun k hk hn => this.block k hk (by simpa using hn)⟩
section
variable {ops : Array Oper} {rest : List Oper} {o : Oper} {a : Act} {Q : Exit → Act → World → Prop}
/-- len(m), v, ok := m[k] and delete(m, k) at the operation. -/
theorem wpList_len_Mp (w : World) (hg : o.guard = none) (m : Operand) (hop : o.op = Op.call { callee := Callee.builtin Builtin.len, args := #[m], argTypes := #[53] }) {mb cnt sz : Nat} {d : Int → Nat} (h : Mp w mb cnt d sz) (hm : a.eval m = .map (some mb))
    (hK : wpList Try.prog ops Q rest (a.put o.dst (.int .i64 (sz : Int))) w) : wpList Try.prog ops Q (o :: rest) a w := by
  obtain ⟨D, h1, h2, h3⟩ := h
  rw [← h3] at hK
  exact wpList_len_own w hg m 53 hop 3 45 Try.underlying53 _ mb cnt D hm h1 hK
theorem wpList_look_ok_Mp (w : World) (hg : o.guard = none) (m x : Operand) (hop : o.op = Op.lookup 53 m x true) {mb cnt sz : Nat} {d : Int → Nat} (h : Mp w mb cnt d sz) (hm : a.eval m = .map (some mb)) {id : Int} (hx : a.eval x = .int .i64 id) (hw : (Lit.int .i64 id).wf = true)
    (hK : wpList Try.prog ops Q rest (a.put o.dst (.tuple #[.int .u64 (d id : Int), .bool (decide (d id ≠ 0))])) w) : wpList Try.prog ops Q (o :: rest) a w := by
  refine wpList_plain hg fun K' hK' => ?_
  have hr := h.look_ok hw
  unfold Oper.wp
  simp only [execOp, hop, hm, hx, hr, Sem.run_bind, Sem.run_pure, Result.andThen_ok]
  exact hK' _ _ hK
theorem wpList_delete_Mp (w : World) (hg : o.guard = none) (m x : Operand) (hop : o.op = Op.call { callee := Callee.builtin Builtin.delete, args := #[m, x], argTypes := #[53, 3] }) {mb cnt sz : Nat} {d : Int → Nat} (h : Mp w mb cnt d sz) (hm : a.eval m = .map (some mb)) {id : Int} (hx : a.eval x = .int .i64 id) (hw : (Lit.int .i64 id).wf = true)
    (hK : ∀ w', Mp w' mb cnt (fun i => if i = id then 0 else d i) (if d id = 0 then sz else sz - 1) → Kept [mb] w w' → wpList Try.prog ops Q rest (a.put o.dst (.tuple #[])) w') : wpList Try.prog ops Q (o :: rest) a w := by
  refine wpList_plain hg fun K' hK' => ?_
  obtain ⟨w', hr, r1, r2⟩ := h.drop hw o.type
  unfold Oper.wp
  simp [execOp, hop, resolve, invoke, builtin, hm, hx, hr, Result.andThen]
  exact hK' _ _ (hK w' r1 r2)
end
end Go.Proofs.Ytkemkoiknoefdaa
