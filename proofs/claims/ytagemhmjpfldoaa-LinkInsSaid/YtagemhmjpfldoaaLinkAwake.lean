/- The law's own helper 'awake': the document's example. -/
import Derived.Test.YtagemhmjpfldoaaLinkBegin
import Derived.Deep.RegionWith
namespace Go.Proofs.Ytagemhmjpfldoaa
open Go.RowKit
set_option linter.unusedVariables false
set_option linter.unusedSimpArgs false

/-- The cells of the law's world that hold the two ends. -/
structure Two (w : World) (wb : Nat) (A B : Ends) : Prop where
  a : w.cell? ⟨wb, 0, none⟩ = some (.pointer (some ⟨A.k, 0, none⟩))
  b : w.cell? ⟨wb, 0 + 1, none⟩ = some (.pointer (some ⟨B.k, 0, none⟩))
theorem Two.kept {S : List Nat} {w w' : World} {wb : Nat} {A B : Ends} (h : Two w wb A B) (hk : Kept S w w') (hS : wb ∉ S) : Two w' wb A B := by
  have hlt := World.block_lt_of_cell? w _ h.a
  have hb := hk.block wb hlt hS
  exact ⟨(World.cell?_of_block (w := w) hb).trans h.a, (World.cell?_of_block (w := w) hb).trans h.b⟩
theorem Two.of {w : World} {wb : Nat} {A B : Ends} {c : Array Value} {T : TypeId} {fr : Nat × Nat} (h : w.heap[wb]? = some (.cells c T fr)) (h0 : c[0]? = some (.pointer (some ⟨A.k, 0, none⟩))) (h1 : c[1]? = some (.pointer (some ⟨B.k, 0, none⟩))) : Two w wb A B :=
  ⟨(cell_of h).trans h0, (cell_of h).trans h1⟩

/-- In, where the packet's epoch is known to be the end's own. -/
theorem LIn.in_at {w : World} {E : Ends} {m win acked next : Nat} {lo li : List Value} (h : LIn.Link w E m win acked lo next li) (N P : Int) (hN : N = E.N) (hP : P = E.P) (base ack : Nat) (hack : ack ≤ acked + min lo.length win) (hba : acked ≤ 4611686018427387904) (hbn : next ≤ 4611686018427387904) (hb : base ≤ next)
    (a : Option Addr) (n cap : Nat) (xs : List Value) (hs : Sl w (.slice a n cap) xs) (ho : ∀ x ∈ xs, ∃ s, x = .string s) (hout : 0 < xs.length → NotIn E.all (.slice a n cap)) :
    Calls Try.prog 14 #[.pointer (some ⟨E.k, 0, none⟩), .agg #[.int .u64 N, .int .i64 P, .int .u64 (base : Int), .slice a n cap, .int .u64 (ack : Int)]] w (LIn.InPost w E m win acked ack next base lo li xs) := by
  subst hN; subst hP
  exact LIn.in_ok h base ack hack hba hbn hb a n cap xs hs ho hout
theorem LSt.in_at {w : World} {E : Ends} {m win acked next : Nat} {lo li : List Value} (h : LSt.Link w E m win acked lo next li) (N P : Int) (hN : N = E.N) (hP : P = E.P) (base ack : Nat) (hack : ack ≤ acked + min lo.length win) (hba : acked ≤ 4611686018427387904) (hbn : next ≤ 4611686018427387904) (hb : base ≤ next)
    (a : Option Addr) (n cap : Nat) (xs : List Value) (hs : Sl w (.slice a n cap) xs) (ho : ∀ x ∈ xs, ∃ s, x = .int .i64 s) (hout : 0 < xs.length → NotIn E.all (.slice a n cap)) :
    Calls Try.prog 16 #[.pointer (some ⟨E.k, 0, none⟩), .agg #[.int .u64 N, .int .i64 P, .int .u64 (base : Int), .slice a n cap, .int .u64 (ack : Int)]] w (LSt.InPost w E m win acked ack next base lo li xs) := by
  subst hN; subst hP
  exact LSt.in_ok h base ack hack hba hbn hb a n cap xs hs ho hout
theorem OwnL.out {base : Nat} {E : TypeId} {w : World} {v : Value} {xs : List Value} (h : OwnL base E w v xs) (S : List Nat) (hS : ∀ x ∈ S, x < base) : NotIn S v := fun k hk hm => by
  have h1 := (h.lt k hk).1
  have h2 := hS k hm
  omega
/-- Kept, between worlds of which the one drew more. -/
theorem Kept.of_drew {S : List Nat} {w w' : World} (h : Kept S w.drew w') : Kept S w w' := ⟨h.os, h.tape, h.output, h.size, h.block⟩

set_option maxRecDepth 100000 in
set_option maxHeartbeats 2000000 in
theorem awake_any (w : World) : Calls Try.prog 10 #[] w fun e w' => e = .returned (.bool true) ∧ Kept [] w w' := by
  go_enter Try.func10, Try.ntmps10
  go_wp2_with fail
  refine (begin_any 3 2 (by omega) (by omega) 4 3 rfl rfl w).mono ?_
  rintro e w1 ⟨wb, A, B, rfl, hA1, hA2, hB1, hB2, hb1, hLA, hLB, hK1, hwb, hfA, hfB, hAB, hwA, hwB⟩
  have T1 : Two w1 wb A B := Two.of hb1 rfl rfl
  have ca := T1.a
  have HLA := hid hLA
  have HLB := hid hLB
  have HT := hid T1
  have HK1 := hid hK1
  have HFA := hid hfA
  have HFB := hid hfB
  have HAB := hid hAB
  have HWA := hid hwA
  have HWB := hid hwB
  clear hLA hLB T1 hK1 hfA hfB hAB hwA hwB hb1
  go_wp2_with fail
  refine (LSt.put_ok HLA.out (by simp) ⟨#[120]⟩).mono ?_
  rintro e w2 ⟨rfl, hLA2, hK2⟩
  have hwA2 : wb ∉ A.so := fun h => HWA.out (by simp [Ends.so] at h; simp [Ends.all]; omega)
  have hAB2 : ∀ x ∈ B.all, x ∉ A.so := fun x hx h => HAB.out x (by simp [Ends.so] at h; simp [Ends.all]; omega) hx
  have T2 := HT.out.kept hK2 hwA2
  have HLB2 := hid (HLB.out.kept hK2 hAB2)
  have HLA2 := hid hLA2
  have HK2 := hid (HK1.out.join hK2 (S := []) (fun i hi hlt => by have := HFA.out i (by simp [Ends.so] at hi; simp [Ends.all]; omega); omega))
  have ca2 := T2.a
  have cb2 := T2.b
  have HT2 := hid T2
  clear T2 hK2 hLA2 ca hwA2 hAB2
  go_wp2
  have HNAB := hid (⟨hA1.trans hB1.symm, hA2.trans hB2.symm⟩ : A.N = B.N ∧ A.P = B.P)
  have HLTA := hid HLA2.out.lt
  have HLTB := hid HLB2.out.lt
  go_region_with (first
    | (go_at_call 15; refine (LSt.out_any (by exact HLA2.out.sim ⟨rfl, rfl, rfl, rfl⟩)).mono ?_; rintro e w3 ⟨v, rfl, hO, hK3⟩; have hK3 := hK3.of_drew; have HT3 := hid (HT2.out.kept hK3 (by simp)); have cb3 := HT3.out.b; have HLA3 := hid (HLA2.out.still hK3); have HLB3 := hid (HLB2.out.still hK3); have HK3 := hid (HK2.out.trans hK3); obtain ⟨va, vn, vc, rfl⟩ := hO.form'; have HO := hid hO; clear hO hK3)
    | (go_at_call 14; refine (LIn.in_at (by exact HLB3.out.sim ⟨rfl, rfl, rfl, rfl⟩) 4 2 (by exact hB1.symm) (by exact hB2.symm) 0 0 (by omega) (by omega) (by omega) (by omega) va vn vc [.string ⟨#[120]⟩] (by exact HO.out.sl) (by simp) (by exact fun _ => HO.out.out _ HLTB.out)).mono ?_; rintro e w4 ⟨k, hk, rfl, hL4, hK4⟩; obtain rfl : k = 1 := (by simpa using hk); have hL4' : LIn.Link w4 B 4 3 0 [] 1 [.string ⟨#[120]⟩] := hL4; have HLB4 := hid hL4'; clear hL4'; have HK4 := hid hK4; have HT4 := hid (HT3.out.kept hK4 HWB.out); have HLA4 := hid (HLA3.out.kept hK4 HAB.out); have ca4 := HT4.out.a; have cb4 := HT4.out.b; clear hL4 hK4 hk ca2 cb2 cb3))
  all_goals
    have HK5 := hid (HK3.out.join HK4.out (S := []) (fun i hi hlt => by have := HFB.out i hi; omega))
    have hs4 := HK4.out.size
    have HLTA4 := hid HLA4.out.lt
    clear HO HLA3 HLB3 HK3 HK4 HT3 HLB2 HLA2 HK2 HT2 HLA HLB HT HK1 hK3
    go_wp2
    go_region_with (first
      | (go_at_call 17; refine (LIn.out_any (by exact HLB4.out.sim ⟨rfl, rfl, rfl, rfl⟩)).mono ?_; rintro e w5 ⟨v5, rfl, hO, hK⟩; have hK := hK.of_drew; have HT5 := hid (HT4.out.kept hK (by simp)); have ca5 := HT5.out.a; have HLA5 := hid (HLA4.out.still hK); have HLB5 := hid (HLB4.out.still hK); have HK6 := hid (HK5.out.trans hK); obtain ⟨va5, vn5, vc5, rfl⟩ := hO.form'; have HO5 := hid hO; clear hO hK)
      | (go_at_call 16; refine (LSt.in_at (by exact HLA5.out.sim ⟨rfl, rfl, rfl, rfl⟩) 4 2 (by exact hA1.symm) (by exact hA2.symm) 0 1 (by simp) (by omega) (by omega) (by omega) va5 vn5 vc5 [] (by exact HO5.out.sl) (by simp) (by simp)).mono ?_; rintro e w6 ⟨k, hk, rfl, hL6, hK6⟩; obtain rfl : k = 0 := (by simpa using hk); have hL6' : LSt.Link w6 A 4 3 1 [] 0 [] := hL6; have HLA6 := hid hL6'; clear hL6'; have HK6 := hid (HK6.out.join hK6 (S := []) (fun i hi hlt => by have := HFA.out i hi; omega)); have HT6 := hid (HT5.out.kept hK6 HWA.out); have HLB6 := hid (HLB5.out.kept hK6 (fun x hx hx2 => HAB.out x hx2 hx)); have cb6 := HT6.out.b; clear hL6 hK6 hk ca4 cb4 ca5))
    all_goals
      clear HO5 HLA5 HLB5 HT5 HLA4 HLB4 HT4 HK5
      go_wp2_with fail
      refine (LIn.take_ok HLB6.out).mono ?_
      rintro e w7 ⟨rfl, hL7, hK7⟩
      have HLB7 := hid hL7
      have HT7 := hid (HT6.out.kept hK7 (fun h => HWB.out (by simp [Ends.ro] at h; simp [Ends.all]; omega)))
      have HLA7 := hid (HLA6.out.kept hK7 (fun x hx h => HAB.out x hx (by simp [Ends.ro] at h; simp [Ends.all]; omega)))
      have HK7 := hid (HK6.out.join hK7 (S := []) (fun i hi hlt => by have := HFB.out i (by simp [Ends.ro] at hi; simp [Ends.all]; omega); omega))
      have ca7 := HT7.out.a
      clear hL7 hK7 cb6
      go_wp2_with fail
      refine (LSt.acked_any HLA7.out).mono ?_
      rintro e w8 ⟨rfl, hw8⟩
      subst hw8
      go_wp2_with fail
      refine (LSt.idle_any HLA7.out).mono ?_
      rintro e w9 ⟨rfl, hw9⟩
      subst hw9
      go_wp2
      go_ret
      exact ⟨rfl, HK7.out⟩
end Go.Proofs.Ytagemhmjpfldoaa
