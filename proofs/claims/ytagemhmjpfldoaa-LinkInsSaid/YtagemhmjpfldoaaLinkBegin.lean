/- The law's own helper 'begin': two ends of one epoch, in new memory. -/
import Derived.Test.YtagemhmjpfldoaaLinkSt
import Derived.Test.YtagemhmjpfldoaaLinkIn
namespace Go.Proofs.Ytagemhmjpfldoaa
open Go.RowKit
set_option linter.unusedVariables false
set_option linter.unusedSimpArgs false

/-- Behind 'begin'. -/
def BeginPost (w : World) (m win : Nat) (e : Ending) (w' : World) : Prop :=
  ∃ (wb : Nat) (A B : Ends), e = .returned (.pointer (some ⟨wb, 0, none⟩)) ∧ A.N = 4 ∧ A.P = 2 ∧ B.N = 4 ∧ B.P = 2 ∧
    w'.heap[wb]? = some (.cells #[.pointer (some ⟨A.k, 0, none⟩), .pointer (some ⟨B.k, 0, none⟩), .slice none 0 0, .slice none 0 0, .slice none 0 0, .slice none 0 0, .slice none 0 0, .slice none 0 0] 37 (0, 0)) ∧
    LSt.Link w' A m win 0 [] 0 [] ∧ LIn.Link w' B m win 0 [] 0 [] ∧ Kept [] w w' ∧
    w.heap.size ≤ wb ∧ (∀ x ∈ A.all, w.heap.size ≤ x) ∧ (∀ x ∈ B.all, w.heap.size ≤ x) ∧ (∀ x ∈ A.all, x ∉ B.all) ∧ wb ∉ A.all ∧ wb ∉ B.all
set_option maxRecDepth 100000 in
set_option maxHeartbeats 1000000 in
theorem begin_any (a b : Int) (ha : 0 ≤ a ∧ a ≤ 255) (hb : 0 ≤ b ∧ b ≤ 255) (m win : Nat) (hm : (m : Int) = 1 + a % 12) (hw : (win : Int) = 1 + b % 8) (w : World) :
    Calls Try.prog 11 #[.int .u8 a, .int .u8 b] w (BeginPost w m win) := by
  have hm1 : 1 ≤ m := by omega
  have hm2 : m ≤ 256 := by omega
  have hw1 : 1 ≤ win := by omega
  have hw2 : win ≤ 32 := by omega
  have HM := hid hm
  have HW := hid hw
  clear hm hw
  obtain ⟨ha1, ha2⟩ := ha
  obtain ⟨hb1, hb2⟩ := hb
  go_enter Try.func11, Try.ntmps11
  go_wp2_with fail
  refine (LSt.new_any 4 2 _ _ m win HM.out.symm HW.out.symm _ hm1 hm2 hw1 hw2).mono ?_
  rintro e w1 ⟨A, hA1, hA2, rfl, hLA, hK1, hfA⟩
  have hb1 := hK1.blk (blk_alloc_new w _) (by simp)
  have c0 : w1.cell? ⟨w.heap.size, 0, none⟩ = some (.int .u64 4) := by rw [cell_of hb1]; rfl
  have c1 : w1.cell? ⟨w.heap.size, 1, none⟩ = some (.int .i64 2) := by rw [cell_of hb1]; rfl
  have HLA := hid hLA
  have HA1 := hid hA1
  have HA2 := hid hA2
  clear hLA hA1 hA2
  go_wp2_with fail
  refine (LIn.new_any 4 2 _ _ m win HM.out.symm HW.out.symm _ hm1 hm2 hw1 hw2).mono ?_
  rintro e w2 ⟨B, hB1, hB2, rfl, hLB, hK2, hfB⟩
  have HLB := hid hLB
  have HB1 := hid hB1
  have HB2 := hid hB2
  clear hLB hB1 hB2 c0 c1
  go_wp2
  go_ret
  have hs1 := hK1.size
  have hs2 := hK2.size
  simp at hs1
  have hal : Kept [] w2 (w2.alloc (.cells #[.pointer (some ⟨A.k, 0, none⟩), .pointer (some ⟨B.k, 0, none⟩), .slice none 0 0, .slice none 0 0, .slice none 0 0, .slice none 0 0, .slice none 0 0, .slice none 0 0] 37)) := (Kept.refl _ _).alloc _
  have hltA := HLA.out.lt
  have hltB := HLB.out.lt
  refine ⟨w2.heap.size, A, B, rfl, HA1.out, HA2.out, HB1.out, HB2.out, blk_alloc_new _ _, (HLA.out.still hK2).still hal, HLB.out.still hal, (((Kept.refl [] w).alloc _).trans hK1).trans (hK2.trans hal), by omega, ?_, ?_, ?_, ?_, ?_⟩
  · intro x hx; have := hfA x hx; simp at this; omega
  · intro x hx; have := hfB x hx; omega
  · intro x hx hx2; have := hltA x hx; have := hfB x hx2; omega
  · intro hx; have := hltA _ hx; omega
  · intro hx; have := hltB _ hx; omega
end Go.Proofs.Ytagemhmjpfldoaa
