/- LinkBounds, walked: an end never has more that waits than may wait, and never sends more at once than it may -/
import Derived.Test.YtagemhmjpfldoaaLinkActAll
import Derived.Test.YtagemhmjpfldoaaLinkRight
import Derived.Test.YtagemhmjpfldoaaArgs
import Derived.Deep.CutRange
import Derived.Deep.CutBlock
import Derived.Deep.RegionHeld3
namespace Go.Proofs.Ytagemhmjpfldoaa.LinkBounds
open Go.RowKit
set_option linter.unusedVariables false
set_option linter.unusedSimpArgs false

theorem items_of (a b c d e : Value) (w : World) : (Instr.field 45 (.agg #[a, b, c, d, e]) 2).run Try.prog w = .ok d w := by kernel_rfl
set_option maxRecDepth 100000 in
set_option maxHeartbeats 8000000 in
theorem walk (w : World) (p : Int) (hp : 0 ≤ p ∧ p ≤ 255) (q : Int) (hq : 0 ≤ q ∧ q ≤ 255) (a : Option Addr) (n cap : Nat) (xs : List (Value × Value × Value)) (hs : Sl3 w (.slice a n cap) xs) (ho : ∀ x ∈ xs, IsInt .u8 x.1 ∧ IsStr x.2.1 ∧ IsInt .i64 x.2.2) :
    Calls Try.prog 8 #[.int .u8 p, .int .u8 q, .slice a n cap] w fun e w' => e = .returned (.bool true) ∧ Kept [] w w' := by
  obtain ⟨hn, hcap, hmax⟩ := hs.len
  subst hn
  unfold maxLen at hmax
  obtain ⟨m, hm⟩ : ∃ m : Nat, (m : Int) = 1 + p % 12 := ⟨(1 + p % 12).toNat, by omega⟩
  obtain ⟨win, hwin⟩ : ∃ win : Nat, (win : Int) = 1 + q % 8 := ⟨(1 + q % 8).toNat, by omega⟩
  have hm12 : 1 ≤ m ∧ m ≤ 12 := by omega
  have hw8 : 1 ≤ win ∧ win ≤ 8 := by omega
  have HM := hid hm
  have HW := hid hwin
  clear hm hwin
  go_enter Try.func8, Try.ntmps8
  go_wp2_with fail
  refine (awake_any w).mono ?_
  rintro e w1 ⟨rfl, hK1⟩
  go_wp2_with fail
  refine (begin_any p q hp hq m win HM.out HW.out w1).mono ?_
  rintro e w2 ⟨wb, A, B, rfl, hA1, hA2, hB1, hB2, hb2, hLA, hLB, hK2, hwb, hfA, hfB, hAB, hwA, hwB⟩
  obtain ⟨T0, h0⟩ := Wo.of_begin hA1 hA2 hB1 hB2 hb2 hLA hLB hK1 hK2 hwb hfA hfB hAB hwA hwB (by omega : win ≤ 32)
  have H0 := hid h0
  clear hA1 hA2 hB1 hB2 hb2 hLA hLB hK1 hK2 hwb hfA hfB hAB hwA hwB h0
  go_wp2_with fail
  rw [← HM.out, ← HW.out]
  go_loopw [10] (fun iv wr => ∃ i : Nat, i ≤ xs.length ∧ i ≤ 150 ∧ iv = .int .i64 (i : Int) ∧ ∃ T V lA lB s, Wo w T wr wb A B m win V lA lB s ∧ Inv m win s ∧ Small i s) (fun iv _ => xs.length - (intOf iv).toNat)
  case atStart => exact ⟨0, by omega, by omega, rfl, T0, _, _, _, _, H0.out, Inv.zero m win, ⟨by simp [St.zero], by simp [St.zero], by simp [St.zero], by simp [St.zero]⟩⟩
  case round =>
    clear H0
    obtain ⟨i, hi, hil, rfl, T, V, lA, lB, s, hWo, hinv, hsm⟩ := hrel
    go_upto_region 9 with fail
    go_cut [33] from 26 to 33 (fun c wx => c = .bool (decide (i < xs.length ∧ i < 150)) ∧ wx = wr)
    case first =>
      by_cases h1 : i < xs.length
      · by_cases h2 : i < 150
        · have h2i : (i : Int) < 150 := by omega
          go_wp2
          go_meet
          exact ⟨by simp [h1, h2], rfl⟩
        · have h2i : ¬ (i : Int) < 150 := by omega
          go_wp2
          go_meet
          exact ⟨by simp [h2], rfl⟩
      · go_wp2
        go_meet
        exact ⟨by simp [h1], rfl⟩
    case rest =>
    obtain ⟨hc1, hc2⟩ := hcut
    have hc2 := hc2.symm
    subst hc2
    by_cases hlt : i < xs.length ∧ i < 150
    · obtain ⟨hlt, hlt2⟩ := hlt
      rw [decide_eq_true (⟨hlt, hlt2⟩ : i < xs.length ∧ i < 150)] at hc1
      subst hc1
      have hlt3 : (i : Int) < 150 := by omega
      obtain ⟨g, off, rfl, c1, c2, c3⟩ := (hs.old hWo.k (by simp)).cell hlt
      obtain ⟨⟨k, hk, hkw⟩, ⟨x, hx⟩, ⟨z, hz, hzw⟩⟩ := ho _ (List.getElem_mem hlt)
      rw [hk] at c1
      rw [hx] at c2
      rw [hz] at c3
      have hkb := bounds_u8 hkw
      have hzb := bounds_i64 hzw
      have HWo := hid hWo
      have HI := hid hinv
      have HS := hid hsm
      have hsm' : Small 100000 s := ⟨by have := hsm.pA; omega, by have := hsm.pB; omega, by have := hsm.tA; omega, by have := hsm.tB; omega⟩
      have HS' := hid hsm'
      obtain ⟨hkb1, hkb2⟩ := hkb
      obtain ⟨hzb1, hzb2⟩ := hzb
      clear hWo hinv hsm hsm' hk hx hz hkw hzw
      go_wp2_with fail
      refine (act_any HWo.out HI.out HS'.out k hkb1 hkb2 x z hzb1 hzb2).mono ?_
      rintro e w3 ⟨⟨vv, rfl⟩, T3, V3, lA3, lB3, hWo3⟩
      have hinv3 := HI.out.step k (.string x) (.int .i64 z) z
      have hsm3 := HS.out.step (m := m) (win := win) k (.string x) (.int .i64 z) z
      generalize s.step m win k (.string x) (.int .i64 z) z = s3 at *
      have hsm4 : Small 100000 s3 := ⟨by have := hsm3.pA; omega, by have := hsm3.pB; omega, by have := hsm3.tA; omega, by have := hsm3.tB; omega⟩
      have H3 := hid hWo3
      have HI3 := hid hinv3
      have HS3 := hid hsm3
      have HS4 := hid hsm4
      clear HWo HI HS HS' hWo3 hinv3 hsm3 hsm4 c1 c2 c3
      have hi := HI3.out
      have hpA := HS4.out.pA
      have hpB := HS4.out.pB
      have h1a := hi.ab.an
      have h1n := hi.ab.np
      have h1l := hi.ab.ll
      have h1m := hi.ab.mo
      have h1g := hi.ab.gn
      have h1i := hi.ab.mi
      obtain ⟨rr, hrr⟩ : ∃ rr : Nat, (m : Int) - (s3.loA.length : Int) = (rr : Int) := ⟨m - s3.loA.length, by omega⟩
      have HR := hid (fun W hs => by have := LSt.room_any hs; rw [hrr] at this; exact this : ∀ W, LSt.Link W A m win s3.ackA s3.loA s3.nxA s3.liA → Calls Try.prog 25 #[.pointer (some ⟨A.k, 0, none⟩)] W fun e w' => e = .returned (.int .i64 (rr : Int)) ∧ ∃ k, w' = W.drewN k)
      have d1 : decide ((rr : Int) < 0) = false := by simp
      have d2 : decide (m < rr) = false := by simp; omega
      have d2' : decide ((m : Int) < (rr : Int)) = false := by simp; omega
      have d4 : decide (m < s3.liB.length) = false := by simp; omega
      have d4' : decide ((m : Int) < (s3.liB.length : Int)) = false := by simp; omega
      have f2 : ¬ (m : Int) < (rr : Int) := by omega
      obtain ⟨D1, hD1⟩ : ∃ D1, D1 = s3.loA.length := ⟨_, rfl⟩
      obtain ⟨D2, hD2⟩ : ∃ D2, D2 = s3.liB.length := ⟨_, rfl⟩
      have f3 : (s3.pA.length : Int) - (s3.ackA : Int) = (D1 : Int) := by omega
      have f3' : (m : Int) - (rr : Int) = (D1 : Int) := by omega
      have f31 : (D1 : Int) ≤ 12 := by omega
      have f32 : (m : Int) ≤ 12 := by omega
      have f33 : (D2 : Int) ≤ 12 := by omega
      rw [← hD2] at d4 d4'
      have f4 : (s3.nxB : Int) - (s3.gB.length : Int) = (D2 : Int) := by omega
      have f5 : (s3.ackA : Int) ≤ 100000 := by omega
      have f6 : (s3.nxB : Int) ≤ 100000 := by omega
      have f7 : (s3.pA.length : Int) ≤ 100000 := by omega
      have f8 : (s3.gB.length : Int) ≤ 100000 := by omega
      have f9 : (rr : Int) ≤ 100000 := by omega
      have hfi := items_of
      have v1 : IntKind.i64.wrap (s3.ackA : Int) = (s3.ackA : Int) := IntWalk.i64_in _ (by omega)
      have v2 : IntKind.i64.wrap (s3.nxB : Int) = (s3.nxB : Int) := IntWalk.i64_in _ (by omega)
      have v3 : IntKind.i64.wrap (D1 : Int) = (D1 : Int) := IntWalk.i64_in _ (by omega)
      have v4 : IntKind.i64.wrap (D2 : Int) = (D2 : Int) := IntWalk.i64_in _ (by omega)
      obtain ⟨a2, n2, c2, h2⟩ := H3.out.gB.form'
      obtain ⟨a3, n3, c3, h3⟩ := H3.out.pA.form'
      have s2 := H3.out.gB.sl
      have s4 := H3.out.pA.sl
      obtain ⟨e1, e2, e3, _, _, e6, _, _⟩ := H3.out.cells
      rw [h3] at e3 s4
      rw [h2] at e6 s2
      obtain ⟨rfl, _, _⟩ := s2.len
      obtain ⟨rfl, _, _⟩ := s4.len
      have HV := hid h2
      have HV3 := hid h3
      clear hi h1a h1n h1l h1m h1g h1i h2 h3 s2 s4 hpA hpB hrr hD1 hD2
      go_wp2
      go_cut [105] from 42 to 105 (fun c wx => c = .bool false ∧ ∃ T', Wo w T' wx wb A B m win V3 lA3 lB3 s3)
      case first =>
        go_region_held3 (fun w' => w'.cell? ⟨wb, 0, none⟩ = some (.pointer (some ⟨A.k, 0, none⟩)) ∧ w'.cell? ⟨wb, 1, none⟩ = some (.pointer (some ⟨B.k, 0, none⟩)) ∧ w'.cell? ⟨wb, 2, none⟩ = some (.slice a3 s3.pA.length c3) ∧ w'.cell? ⟨wb, 5, none⟩ = some (.slice a2 s3.gB.length c2)) (first | exact ⟨e1, e2, e3, e6⟩ | exact HC4.out) (first
          | (go_at_call 25; refine (HR.out _ (by exact H3.out.a.sim ⟨rfl, rfl, rfl, rfl⟩)).mono ?_; rintro e wR ⟨rfl, kd, rfl⟩)
          | (go_at_call 26; refine (LSt.acked_any (by exact H3.out.a.sim ⟨rfl, rfl, rfl, rfl⟩)).mono ?_; rintro e wR ⟨rfl, hwR⟩; subst hwR)
          | (go_at_call 15; refine (LSt.out_any (by exact H3.out.a.sim ⟨rfl, rfl, rfl, rfl⟩)).mono ?_; rintro e w4 ⟨v, rfl, hO, hK4⟩; have h4 := H3.out.still (hK4.as ⟨rfl, rfl, rfl, rfl⟩ : Kept [] w3 w4) 0; have hc4 := h4.cells; rw [HV.out, HV3.out] at hc4; have HC4 := hid (⟨hc4.1, hc4.2.1, hc4.2.2.1, hc4.2.2.2.2.2.1⟩ : w4.cell? ⟨wb, 0, none⟩ = some (.pointer (some ⟨A.k, 0, none⟩)) ∧ w4.cell? ⟨wb, 1, none⟩ = some (.pointer (some ⟨B.k, 0, none⟩)) ∧ w4.cell? ⟨wb, 2, none⟩ = some (.slice a3 s3.pA.length c3) ∧ w4.cell? ⟨wb, 5, none⟩ = some (.slice a2 s3.gB.length c2)); obtain ⟨va, vn, vc, rfl⟩ := hO.form'; have hvn := hO.sl.len.1; rw [List.length_take] at hvn; have hvw : decide (win < vn) = false := (by simp; omega); have hvw2 : decide ((win : Int) < (vn : Int)) = false := (by simp; omega); have H4 := hid h4; clear hO hK4 h4 hvn hc4)
          | (go_at_call 21; refine (LIn.got_any (by exact H4.out.b.sim ⟨rfl, rfl, rfl, rfl⟩)).mono ?_; rintro e wR ⟨rfl, hwR⟩; subst hwR))
        all_goals
          go_wp2_with fail
          go_meet
          exact ⟨rfl, _, H4.out⟩
      case rest =>
        obtain ⟨rfl, T4, h4⟩ := hcut
        have H4 := hid h4
        clear h4 H3 e1 e2 e3 e6
        go_wp2_with fail
        go_roundw
        case rel => exact ⟨i + 1, by omega, by omega, by go_num, T4, V3, lA3, lB3, s3, H4.out, HI3.out, HS3.out⟩
        case measure => simp [intOf]; omega
    · rw [decide_eq_false hlt] at hc1
      subst hc1
      go_wp2
      go_ret
      exact ⟨rfl, hWo.k⟩
end Go.Proofs.Ytagemhmjpfldoaa.LinkBounds
