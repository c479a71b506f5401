/- '==' of two epochs. -/
import Derived.Test.YtagemhmjpfldoaaCore
import Derived.Laws.StructEq
import Derived.ChangeKeysEq
namespace Go.Proofs.Ytagemhmjpfldoaa
open Go.RowKit
set_option linter.unusedVariables false
set_option linter.unusedSimpArgs false
theorem viewid : Try.prog.underlying 43 = some (.struct (Try.prog.fieldsOf 43)) := by kernel_rfl
theorem viewid_fields : ((Try.prog.fieldsOf 43).toList.map fun f => (f.name == "_", f.type, f.offset)) = [(false, 41, 0), (false, 3, 1)] := by kernel_rfl
@[go_sem] theorem eq_epoch (a b c d : Int) (w : World) :
    (Op.equalIn 10000 43 (.agg #[.int .u64 a, .int .i64 b]) (.agg #[.int .u64 c, .int .i64 d])).run Try.prog w = .ok ((a == c) && (b == d)) w := by
  rw [run_equalIn_agg w 9999 _ _ _ viewid (by kernel_rfl)]
  generalize hfs : (Try.prog.fieldsOf 43).toList = fs
  have h := viewid_fields
  rw [hfs] at h
  clear hfs
  rcases fs with _ | ⟨f, _ | ⟨g, _ | ⟨x, tl⟩⟩⟩
  · simp at h
  · simp at h
  · simp only [List.map_cons, List.map_nil, List.cons.injEq, Prod.mk.injEq, and_true] at h
    obtain ⟨⟨hf1, hf2, hf3⟩, hg1, hg2, hg3⟩ := h
    have hf1 : f.name ≠ "_" := by simpa using hf1
    have hg1 : g.name ≠ "_" := by simpa using hg1
    simp only [Op.eqFields, if_pos hf1, if_pos hg1, hf2, hf3, hg2, hg3, Sem.run_bind]
    have p1 : ∀ (x y : Int), (part 41 #[.int .u64 x, .int .i64 y] 0).run Try.prog w = .ok (.int .u64 x) w := fun x y => run_part_plain w (P := Try.prog) (e := 41) (by kernel_rfl) rfl
    have p2 : ∀ (x y : Int), (part 3 #[.int .u64 x, .int .i64 y] 1).run Try.prog w = .ok (.int .i64 y) w := fun x y => run_part_plain w (P := Try.prog) (e := 3) (by kernel_rfl) rfl
    rw [p1, Result.andThen_ok, p1, Result.andThen_ok, run_equalIn_int w 9998 _ _ _ _ _ Try.underlying41, Result.andThen_ok]
    by_cases hac : (a == c) = true
    · simp only [hac, Bool.not_true, Bool.false_eq_true, if_false, Sem.run_bind]
      rw [p2, Result.andThen_ok, p2, Result.andThen_ok, run_equalIn_int w 9998 _ _ _ _ _ Try.underlying3, Result.andThen_ok]
      cases (b == d) <;> simp
    · have hac : (a == c) = false := by simpa using hac
      simp only [hac, Bool.not_false, if_true, Sem.run_pure, Bool.false_and]
  · simp at h
@[go_sem] theorem guard_epoch (op : BinOp) (x y : Operand) (xs ys : Array Value) (w : World) : (eqGuard op 43 x y (.agg xs) (.agg ys)).run Try.prog w = .ok () w := run_eqGuard_agg w op _ x y xs ys (by kernel_rfl)
@[go_sem] theorem neq_epoch (a b c d : Int) (w : World) : (binOp .neq 43 (.agg #[.int .u64 a, .int .i64 b]) (.agg #[.int .u64 c, .int .i64 d])).run Try.prog w = .ok (.bool (!((a == c) && (b == d)))) w := by
  rw [run_neq_struct, eq_epoch]; rfl
@[go_sem] theorem eql_epoch (a b c d : Int) (w : World) : (binOp .eql 43 (.agg #[.int .u64 a, .int .i64 b]) (.agg #[.int .u64 c, .int .i64 d])).run Try.prog w = .ok (.bool ((a == c) && (b == d))) w := by
  rw [run_eql_struct, eq_epoch]; rfl
end Go.Proofs.Ytagemhmjpfldoaa
