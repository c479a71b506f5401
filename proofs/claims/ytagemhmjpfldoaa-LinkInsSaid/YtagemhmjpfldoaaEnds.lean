/- The blocks of one end. -/
import Derived.Test.YtagemhmjpfldoaaCore
namespace Go.Proofs.Ytagemhmjpfldoaa
set_option linter.unusedVariables false
/-- The blocks of an end, and its epoch: the end, its sender (with its ring and the ring's array), its receiver. -/
structure Ends where
  k : Nat
  s : Nat
  sb : Nat
  ss : Nat
  r : Nat
  rb : Nat
  rs : Nat
  N : Int
  P : Int
def Ends.so (E : Ends) : List Nat := [E.s, E.sb, E.ss]
def Ends.ro (E : Ends) : List Nat := [E.r, E.rb, E.rs]
/-- An end's own blocks, its sender's and its receiver's lie apart. -/
structure Ends.Apart (E : Ends) : Prop where
  ks : E.k ∉ E.so
  kr : E.k ∉ E.ro
  sr : ∀ x ∈ E.so, x ∉ E.ro
theorem Ends.so' (E : Ends) : E.s ∈ E.so ∧ E.sb ∈ E.so ∧ E.ss ∈ E.so := by simp [Ends.so]
theorem Ends.ro' (E : Ends) : E.r ∈ E.ro ∧ E.rb ∈ E.ro ∧ E.rs ∈ E.ro := by simp [Ends.ro]
theorem Ends.Apart.rs {E : Ends} (h : E.Apart) : ∀ x ∈ E.ro, x ∉ E.so := fun x hx hs => h.sr x hs hx
def Ends.all (E : Ends) : List Nat := [E.k, E.s, E.sb, E.ss, E.r, E.rb, E.rs]
theorem Ends.mk' (E : Ends) : E.k ∈ E.all ∧ E.s ∈ E.all ∧ E.sb ∈ E.all ∧ E.ss ∈ E.all ∧ E.r ∈ E.all ∧ E.rb ∈ E.all ∧ E.rs ∈ E.all := by simp [Ends.all]
theorem Ends.mkk (E : Ends) : E.k ∈ E.all := E.mk'.1
theorem Ends.ms (E : Ends) : E.s ∈ E.all := E.mk'.2.1
theorem Ends.msb (E : Ends) : E.sb ∈ E.all := E.mk'.2.2.1
theorem Ends.mss (E : Ends) : E.ss ∈ E.all := E.mk'.2.2.2.1
theorem Ends.mr (E : Ends) : E.r ∈ E.all := E.mk'.2.2.2.2.1
theorem Ends.mrb (E : Ends) : E.rb ∈ E.all := E.mk'.2.2.2.2.2.1
theorem Ends.mrs (E : Ends) : E.rs ∈ E.all := E.mk'.2.2.2.2.2.2
end Go.Proofs.Ytagemhmjpfldoaa
