/- LinkPlays, walked: whatever happens, what is taken is a beginning of what was put -/
import Derived.Test.YtagemhmjpfldoaaLinkActAll
import Derived.Test.YtagemhmjpfldoaaLinkRight
import Derived.Test.YtagemhmjpfldoaaArgs
namespace Go.Proofs.Ytagemhmjpfldoaa.LinkPlays
open Go.RowKit
set_option linter.unusedVariables false
set_option linter.unusedSimpArgs false

set_option maxRecDepth 100000 in
set_option maxHeartbeats 8000000 in
theorem walk (w : World) (p : Int) (hp : 0 ≤ p ∧ p ≤ 255) (q : Int) (hq : 0 ≤ q ∧ q ≤ 255) (a : Option Addr) (n cap : Nat) (xs : List (Value × Value × Value)) (hs : Sl3 w (.slice a n cap) xs) (ho : ∀ x ∈ xs, IsInt .u8 x.1 ∧ IsStr x.2.1 ∧ IsInt .i64 x.2.2) :
    Calls Try.prog 3 #[.int .u8 p, .int .u8 q, .slice a n cap] w fun e w' => e = .returned (.bool true) ∧ Kept [] w w' := by
  obtain ⟨hn, hcap, hmax⟩ := hs.len
  subst hn
  unfold maxLen at hmax
  obtain ⟨m, hm⟩ : ∃ m : Nat, (m : Int) = 1 + p % 12 := ⟨(1 + p % 12).toNat, by omega⟩
  obtain ⟨win, hwin⟩ : ∃ win : Nat, (win : Int) = 1 + q % 8 := ⟨(1 + q % 8).toNat, by omega⟩
  have hm12 : 1 ≤ m ∧ m ≤ 12 := by omega
  have hw8 : 1 ≤ win ∧ win ≤ 8 := by omega
  have HM := hid hm
  have HW := hid hwin
  clear hm hwin
  go_enter Try.func3, Try.ntmps3
  go_wp2_with fail
  refine (awake_any w).mono ?_
  rintro e w1 ⟨rfl, hK1⟩
  go_wp2_with fail
  refine (begin_any p q hp hq m win HM.out HW.out w1).mono ?_
  rintro e w2 ⟨wb, A, B, rfl, hA1, hA2, hB1, hB2, hb2, hLA, hLB, hK2, hwb, hfA, hfB, hAB, hwA, hwB⟩
  obtain ⟨T0, h0⟩ := Wo.of_begin hA1 hA2 hB1 hB2 hb2 hLA hLB hK1 hK2 hwb hfA hfB hAB hwA hwB (by omega : win ≤ 32)
  have H0 := hid h0
  clear hA1 hA2 hB1 hB2 hb2 hLA hLB hK1 hK2 hwb hfA hfB hAB hwA hwB h0
  go_wp2_with fail
  go_loopw [8] (fun iv wr => ∃ i : Nat, i ≤ xs.length ∧ i ≤ 200 ∧ iv = .int .i64 (i : Int) ∧ ∃ T V lA lB s, Wo w T wr wb A B m win V lA lB s ∧ Inv m win s ∧ Small i s) (fun iv _ => xs.length - (intOf iv).toNat)
  case atStart => exact ⟨0, by omega, by omega, rfl, T0, _, _, _, _, H0.out, Inv.zero m win, ⟨by simp [St.zero], by simp [St.zero], by simp [St.zero], by simp [St.zero]⟩⟩
  case round =>
    clear H0
    obtain ⟨i, hi, hil, rfl, T, V, lA, lB, s, hWo, hinv, hsm⟩ := hrel
    by_cases hlt : i < xs.length ∧ i < 200
    · obtain ⟨hlt, hlt2⟩ := hlt
      have hlt3 : (i : Int) < 200 := by omega
      obtain ⟨g, off, rfl, c1, c2, c3⟩ := (hs.old hWo.k (by simp)).cell hlt
      obtain ⟨⟨k, hk, hkw⟩, ⟨x, hx⟩, ⟨z, hz, hzw⟩⟩ := ho _ (List.getElem_mem hlt)
      rw [hk] at c1
      rw [hx] at c2
      rw [hz] at c3
      have hkb := bounds_u8 hkw
      have hzb := bounds_i64 hzw
      have HWo := hid hWo
      have HI := hid hinv
      have HS := hid hsm
      have hsm' : Small 100000 s := ⟨by have := hsm.pA; omega, by have := hsm.pB; omega, by have := hsm.tA; omega, by have := hsm.tB; omega⟩
      have HS' := hid hsm'
      obtain ⟨hkb1, hkb2⟩ := hkb
      obtain ⟨hzb1, hzb2⟩ := hzb
      clear hWo hinv hsm hsm' hk hx hz hkw hzw
      go_wp2_with fail
      refine (act_any HWo.out HI.out HS'.out k hkb1 hkb2 x z hzb1 hzb2).mono ?_
      rintro e w3 ⟨⟨vv, rfl⟩, T3, V3, lA3, lB3, hWo3⟩
      have hinv3 := HI.out.step k (.string x) (.int .i64 z) z
      have hsm3 := HS.out.step (m := m) (win := win) k (.string x) (.int .i64 z) z
      generalize s.step m win k (.string x) (.int .i64 z) z = s3 at *
      have hsm4 : Small 100000 s3 := ⟨by have := hsm3.pA; omega, by have := hsm3.pB; omega, by have := hsm3.tA; omega, by have := hsm3.tB; omega⟩
      have H3 := hid hWo3
      have HI3 := hid hinv3
      have HS3 := hid hsm3
      have HS4 := hid hsm4
      clear HWo HI HS HS' hWo3 hinv3 hsm3 hsm4 c1 c2 c3
      go_wp2_with fail
      refine (right_any H3.out HI3.out HS4.out).mono ?_
      rintro e w4 ⟨rfl, kd, rfl⟩
      go_wp2_with fail
      go_roundw
      case rel => exact ⟨i + 1, by omega, by omega, by go_num, _, V3, lA3, lB3, s3, H3.out.still (Kept.drewN [] _ kd) 0, HI3.out, HS3.out⟩
      case measure => simp [intOf]; omega
    · have hex : i = xs.length ∨ (i < xs.length ∧ i = 200) := by omega
      have H3 := hid hWo
      have HI3 := hid hinv
      have HS3 := hid hsm
      have hsm4 : Small 100000 s := ⟨by have := hsm.pA; omega, by have := hsm.pB; omega, by have := hsm.tA; omega, by have := hsm.tB; omega⟩
      have HS4 := hid hsm4
      clear hWo hinv hsm hsm4 hlt
      rcases hex with rfl | ⟨hex, rfl⟩
      · go_wp2
        go_ret
        exact ⟨rfl, H3.out.k⟩
      · go_wp2
        go_ret
        exact ⟨rfl, H3.out.k⟩
end Go.Proofs.Ytagemhmjpfldoaa.LinkPlays
