/- LinkEpochs, walked: what one epoch's ends send never comes in another one's. -/
import Derived.Test.YtagemhmjpfldoaaLinkOnly
import Derived.Test.YtagemhmjpfldoaaArgsV
import Derived.Test.YtagemhmjpfldoaaLinkRounds
import Derived.Deep.CutRange
import Derived.Deep.CutBlock
namespace Go.Proofs.Ytagemhmjpfldoaa.LinkEpochs
open Go.RowKit
set_option linter.unusedVariables false
set_option linter.unusedSimpArgs false

set_option maxRecDepth 100000 in
set_option maxHeartbeats 8000000 in
theorem walk (w : World) (p : Int) (hp : 0 ≤ p ∧ p ≤ 255) (q : Int) (hq : 0 ≤ q ∧ q ≤ 255) (a : Option Addr) (n cap : Nat) (xs : List Value) (hs : Sl w (.slice a n cap) xs) (ho : ∀ x ∈ xs, ∃ s : ByteArray, x = .string s) (hz : cap * 16 ≤ 140737488351232)
    (a1 : Option Addr) (n1 cap1 : Nat) (ys : List Value) (hs1 : Sl w (.slice a1 n1 cap1) ys) (ho1 : ∀ x ∈ ys, ∃ s : ByteArray, x = .string s) (hz1 : cap1 * 16 ≤ 140737488351232) (N P : Int) (hN : 0 ≤ N ∧ N ≤ 18446744073709551615) (hP : -9223372036854775808 ≤ P ∧ P ≤ 9223372036854775807) :
    Calls Try.prog 6 #[.int .u8 p, .int .u8 q, .slice a n cap, .slice a1 n1 cap1, .agg #[.int .u64 N, .int .i64 P]] w fun e w' => e = .returned (.bool true) ∧ Kept [] w w' := by
  obtain ⟨hn, hcap, hmax⟩ := hs.len
  subst hn
  obtain ⟨hn1, hcap1, hmax1⟩ := hs1.len
  subst hn1
  unfold maxLen at hmax hmax1
  obtain ⟨m, hm⟩ : ∃ m : Nat, (m : Int) = 1 + p % 12 := ⟨(1 + p % 12).toNat, by omega⟩
  obtain ⟨win, hwin⟩ : ∃ win : Nat, (win : Int) = 1 + q % 8 := ⟨(1 + q % 8).toNat, by omega⟩
  have hcapi : (cap : Int) ≤ 8796093022207 := by omega
  have hcapi1 : (cap1 : Int) ≤ 8796093022207 := by omega
  have hxi : (xs.length : Int) ≤ 8796093022207 := by omega
  have hyi : (ys.length : Int) ≤ 8796093022207 := by omega
  have hm12 : 1 ≤ m ∧ m ≤ 12 := by omega
  have hw8 : 1 ≤ win ∧ win ≤ 8 := by omega
  have HM := hid hm
  have HW := hid hwin
  clear hm hwin
  have HAL := hid (kept_new (w := w) (.cells #[.int .u64 N, .int .i64 P] 43))
  go_enter Try.func6, Try.ntmps6
  go_upto_region 1 with fail
  go_cut [34] from 20 to 34 (fun c wx => c = .bool (decide ((N = 4 ∧ P = 2) ∨ 100 < xs.length + ys.length)) ∧ Kept [] (w.alloc (.cells #[.int .u64 N, .int .i64 P] 43)) wx)
  case first =>
    go_wp2_with fail
    refine (awake_any _).mono ?_
    rintro e w1 ⟨rfl, hK1⟩
    have hb1 := hK1.blk (blk_alloc_new w (.cells #[.int .u64 N, .int .i64 P] 43)) (by simp)
    have c0 : w1.cell? ⟨w.heap.size, 0, none⟩ = some (.int .u64 N) := by rw [cell_of hb1]; rfl
    have c1 : w1.cell? ⟨w.heap.size, 0 + 1, none⟩ = some (.int .i64 P) := by rw [cell_of hb1]; rfl
    have HK1 := hid hK1
    clear hK1 hb1
    by_cases h1 : N = 4
    · subst h1
      by_cases h2 : P = 2
      · subst h2
        go_wp2
        go_meet
        exact ⟨by simp, HK1.out⟩
      · by_cases h3 : 100 < xs.length + ys.length
        · have h3i : (100 : Int) < (xs.length : Int) + (ys.length : Int) := by omega
          go_wp2
          go_meet
          exact ⟨by simp [h3], HK1.out⟩
        · have h3i : ¬ (100 : Int) < (xs.length : Int) + (ys.length : Int) := by omega
          go_wp2
          go_meet
          exact ⟨by simp [h2, h3]; omega, HK1.out⟩
    · by_cases h3 : 100 < xs.length + ys.length
      · have h3i : (100 : Int) < (xs.length : Int) + (ys.length : Int) := by omega
        go_wp2
        go_meet
        exact ⟨by simp [h3], HK1.out⟩
      · have h3i : ¬ (100 : Int) < (xs.length : Int) + (ys.length : Int) := by omega
        go_wp2
        go_meet
        exact ⟨by simp [h1, h3]; omega, HK1.out⟩
  case rest =>
  obtain ⟨hc1, hK1⟩ := hcut
  have HK1 := hid (HAL.out.trans hK1)
  by_cases hD : (N = 4 ∧ P = 2) ∨ 100 < xs.length + ys.length
  · rw [decide_eq_true hD] at hc1
    subst hc1
    clear hD
    go_wp2_with fail
    refine (awake_any _).mono ?_
    rintro e w2 ⟨rfl, hK2⟩
    go_wp2
    go_ret
    exact ⟨rfl, HK1.out.trans hK2⟩
  rw [decide_eq_false hD] at hc1
  subst hc1
  have hsum : xs.length ≤ 100 ∧ ys.length ≤ 100 := by omega
  have HNE := hid (by omega : ¬ (N = 4 ∧ P = 2))
  have hb1 := hK1.blk (blk_alloc_new w (.cells #[.int .u64 N, .int .i64 P] 43)) (by simp)
  have HB1 := hid hb1
  clear hD hb1 hK1
  go_wp2_with fail
  refine (begin_any p q hp hq m win HM.out HW.out _).mono ?_
  rintro e w2 ⟨wb, A, B, rfl, hA1, hA2, hB1, hB2, hb2, hLA, hLB, hK2, hwb, hfA, hfB, hAB, hwA, hwB⟩
  have hbx := hK2.blk HB1.out (by simp)
  have c0 : w2.cell? ⟨w.heap.size, 0, none⟩ = some (.int .u64 N) := by rw [cell_of hbx]; rfl
  have c1 : w2.cell? ⟨w.heap.size, 0 + 1, none⟩ = some (.int .i64 P) := by rw [cell_of hbx]; rfl
  obtain ⟨T0, h0⟩ := Wo.of_begin hA1 hA2 hB1 hB2 hb2 hLA hLB HK1.out hK2 hwb hfA hfB hAB hwA hwB (by omega : win ≤ 32)
  have H0 := hid h0
  clear hA1 hA2 hB1 hB2 hb2 hLA hLB hK2 hwb hfA hfB hAB hwA hwB h0 hbx
  go_wp2_with fail
  refine (LSt.new_any N P (1 + p % 12) (1 + q % 8) m win HM.out.symm HW.out.symm _ (by omega) (by omega) (by omega) (by omega)).mono ?_
  rintro e w3 ⟨X, hX1, hX2, rfl, hLX, hK3, hfX⟩
  have H3 := hid (H0.out.still hK3 11)
  have HTX := hid (fun k hk => up_new (hfX k hk) : ∀ k ∈ X.all, up T0 w2.heap.size 11 k = 11)
  have HX3 := hid hLX
  have HXE := hid (by rw [hX1, hX2]; exact HNE.out : ¬ (X.N = 4 ∧ X.P = 2))
  clear hX1 hX2 hLX hK3 hfX H0 c0 c1
  go_wp2_with fail
  go_loopw [14] (fun iv wr => ∃ i : Nat, i ≤ xs.length ∧ iv = .int .i64 (i : Int) ∧ ∃ T V lA lB l, Wo w T wr wb A B m win V lA lB (St.only l) ∧ Inv m win (St.only l) ∧ l.length ≤ i ∧ LSt.Link wr X m win 0 [] 0 [] ∧ ∀ k ∈ X.all, T k = 11) (fun iv _ => xs.length - (intOf iv).toNat)
  case atStart => exact ⟨0, by omega, rfl, _, _, _, _, [], H3.out, Inv.zero m win, by simp, HX3.out, HTX.out⟩
  case round =>
    clear H3 HTX HX3
    obtain ⟨i, hi, rfl, T, V, lA, lB, l, hWo, hinv, hl, hX, hTX⟩ := hrel
    by_cases hlt : i < xs.length
    · obtain ⟨g, off, rfl, hc⟩ := (hs.old hWo.k (by simp)).cell hlt
      obtain ⟨z, hzz⟩ := ho _ (List.getElem_mem hlt)
      rw [hzz] at hc
      have H := hid hWo
      have HI := hid hinv
      have HX := hid hX
      have HTX := hid hTX
      have hsm : (St.only l).pA.length ≤ 100000 := by show l.length ≤ 100000; omega
      clear hWo hinv hX hTX hzz
      go_wp2_with fail
      refine (act0f H.out hsm 0 (by omega) (by omega) (by decide) z 0 (by omega) (by omega)).mono ?_
      rintro e w4 ⟨⟨vv, rfl⟩, T4, V4, lA4, lB4, h4, hF⟩
      obtain ⟨l4, hl4, hl5⟩ := only_put' l m (.string z)
      have hi4 := HI.out.putA (.string z)
      rw [hl4] at h4 hi4
      obtain ⟨S, hkS, hnS⟩ := hF.stays H.out.k h4.k
      have HX4 := hid (HX.out.kept hkS (fun k hk => hnS k (HTX.out k hk)))
      have HTX4 := hid (fun k hk => by rw [(hF.2 k (HX.out.lt k hk)).1]; exact HTX.out k hk : ∀ k ∈ X.all, T4 k = 11)
      have H4 := hid h4
      have HI4 := hid hi4
      have hl6 : l4.length ≤ i + 1 := by omega
      clear h4 hi4 hkS hnS hF hl4 hl5 hc
      go_wp2_with fail
      go_roundw
      case rel => exact ⟨i + 1, by omega, by go_num, T4, V4, lA4, lB4, l4, H4.out, HI4.out, hl6, HX4.out, HTX4.out⟩
      case measure => simp [intOf]; omega
    · have hi0 : i = xs.length := by omega
      have H3 := hid hWo
      have HI3 := hid hinv
      have HX3 := hid hX
      have HTX := hid hTX
      have hl100 : l.length ≤ 100 := by omega
      clear hWo hinv hX hTX hi0
      go_wp2_with fail
      go_loopw [15] (fun iv wr => ∃ j : Nat, j ≤ ys.length ∧ iv = .int .i64 (j : Int) ∧ ∃ T V lA lB lo, Wo w T wr wb A B m win V lA lB (St.only l) ∧ LSt.Link wr X m win 0 lo 0 [] ∧ ∀ k ∈ X.all, T k = 11) (fun iv _ => ys.length - (intOf iv).toNat)
      case atStart => exact ⟨0, by omega, rfl, _, _, _, _, [], H3.out, HX3.out, HTX.out⟩
      case round =>
        clear H3 HX3 HTX
        clear T V lA lB
        obtain ⟨j, hj, rfl, T, V, lA, lB, lo, hWo, hX, hTX⟩ := hrel
        by_cases hlt2 : j < ys.length
        · obtain ⟨g, off, rfl, hc⟩ := (hs1.old hWo.k (by simp)).cell hlt2
          obtain ⟨z, hzz⟩ := ho1 _ (List.getElem_mem hlt2)
          rw [hzz] at hc
          have H := hid hWo
          have HX := hid hX
          have HTX := hid hTX
          clear hWo hX hTX hzz
          by_cases hlo : lo.length < m
          · go_wp2_with fail
            refine (LSt.put_ok HX.out hlo z).mono ?_
            rintro e w4 ⟨rfl, hL4, hK4⟩
            have h4 := H.out.carry hK4 (fun c => c == 11) rfl (fun k hk => by rw [HTX.out k (Ends.so_all k hk)]; rfl) 0 V lA lB (St.only l) rfl ⟨rfl, rfl, rfl, rfl⟩ ⟨rfl, rfl, rfl, rfl⟩ ⟨rfl, rfl⟩ ⟨rfl, rfl⟩ ⟨rfl, rfl⟩ ⟨rfl, rfl⟩ ⟨rfl, rfl, rfl⟩ ⟨rfl, rfl, rfl⟩ rfl
            have HTX4 := hid (fun k hk => by rw [up_old (HX.out.lt k hk)]; exact HTX.out k hk : ∀ k ∈ X.all, up T wr.heap.size 0 k = 11)
            have H4 := hid h4
            have HX4 := hid hL4
            clear h4 hL4 hK4 hc
            go_wp2_with fail
            go_roundw
            case rel => exact ⟨j + 1, by omega, by go_num, _, V, lA, lB, _, H4.out, HX4.out, HTX4.out⟩
            case measure => simp [intOf]; omega
          · have hle : lo.length = m := by have := HX.out.out.ring.le; omega
            go_wp2_with fail
            refine (LSt.put_busy HX.out hle z).mono ?_
            rintro e w4 ⟨rfl, kd, rfl⟩
            have HTX4 := hid (fun k hk => by rw [up_old (HX.out.lt k hk)]; exact HTX.out k hk : ∀ k ∈ X.all, up T wr.heap.size 0 k = 11)
            go_wp2_with fail
            go_roundw
            case rel => exact ⟨j + 1, by omega, by go_num, _, V, lA, lB, _, H.out.still (Kept.drewN [] _ kd) 0, HX.out.still (Kept.drewN [] _ kd), HTX4.out⟩
            case measure => simp [intOf]; omega
        · have H3 := hid hWo
          have HX3 := hid hX
          have e2 := hWo.cells.2.1
          have HBN := hid hWo.eB
          clear hWo hX hTX
          go_wp2
          go_cut [16, 17] from 83 to 92 (fun s16 s17 wx => s16 = .int .i64 0 ∧ s17 = .int .i64 9 ∧ Kept [] wr wx)
          case first =>
            go_region_with (first
              | (go_at_call 15; refine (LSt.out_any (by exact HX3.out.sim ⟨rfl, rfl, rfl, rfl⟩)).mono ?_; rintro e w5 ⟨v, rfl, hO, hK5⟩; obtain ⟨va, vn, vc, rfl⟩ := hO.form'; have hK5 := (hK5.as ⟨rfl, rfl, rfl, rfl⟩ : Kept [] wr w5); have h5 := H3.out.still hK5 0; have e5 := h5.cells.2.1; have HB5 := hid h5.b; have HK5 := hid hK5; clear hO hK5 h5)
              | (go_at_call 14; refine (LIn.in_epoch (by exact HB5.out.sim ⟨rfl, rfl, rfl, rfl⟩) X.N X.P (by rw [HBN.out.1, HBN.out.2]; exact HXE.out) _ _ va vn vc).mono ?_; rintro e w6 ⟨rfl, hK6⟩; have HK6 := hid (HK5.out.trans (hK6.as ⟨rfl, rfl, rfl, rfl⟩ : Kept [] w5 w6)); clear hK6))
            all_goals
              go_wp2_with fail
              go_meet
              exact ⟨rfl, rfl, HK6.out⟩
          case rest =>
            obtain ⟨hs16, hs17, hK6⟩ := hcut
            subst hs16
            subst hs17
            have h6 := H3.out.still hK6 0
            have HX6 := hid (HX3.out.still hK6)
            have e6 := h6.cells.2.1
            have H6 := hid h6
            clear h6 hK6 H3 HX3 e2
            go_wp2_with fail
            refine (LIn.out_any H6.out.b).mono ?_
            rintro e w7 ⟨v, rfl, hO, hK7⟩
            obtain ⟨va, vn, vc, rfl⟩ := hO.form'
            have HX7 := hid (HX6.out.still hK7)
            have H7 := hid (H6.out.still hK7 0)
            clear hO hK7 H6 HX6
            go_wp2_with fail
            refine (LSt.in_epoch HX7.out B.N B.P (by rw [HBN.out.1, HBN.out.2]; exact fun h => HXE.out ⟨h.1.symm, h.2.symm⟩) _ _ va vn vc).mono ?_
            rintro e w8 ⟨rfl, hK8⟩
            have h8 := H7.out.still hK8 0
            have e8 := h8.cells.2.1
            have HB8 := hid (h8.b : LIn.Link w8 B m win 0 [] 0 [])
            have H8 := hid h8
            clear hK8 H7 h8
            go_wp2_with fail
            refine (LIn.got_any HB8.out).mono ?_
            rintro e w9 ⟨rfl, hw9⟩
            subst hw9
            go_wp2_with fail
            have hlB : lB.length = 0 := by have := H8.out.fB; have := congrArg List.length this; simpa [St.only, St.zero] using this.symm
            refine (act2 H8.out (by show (St.only l).tB.length ≤ 100000; simp [St.only, St.zero]) 2 (by omega) (by omega) (by decide) ⟨#[]⟩ 0 (by omega) (by omega)).mono ?_
            rintro e w9 ⟨⟨v9, rfl⟩, T9, V9, lA9, lB9, h9⟩
            have hlB9 : lB9.length ≤ 100000 := by have := congrArg List.length h9.fB; simp [St.sendA, St.only, St.zero] at this; omega
            have HI9 := hid HI3.out.sendA
            have H9 := hid h9
            clear h9 H8 HB8 e8 hlB
            go_wp2_with fail
            refine (act4 H9.out HI9.out hlB9 (by show l.length ≤ 100000; omega) (by show (0 : Nat) ≤ 100000; omega) 4 (by omega) (by omega) (by decide) ⟨#[]⟩ 0 (by omega) (by omega)).mono ?_
            rintro e w10 ⟨⟨v10, rfl⟩, T10, V10, lA10, lB10, h10⟩
            have h10 : Wo w T10 w10 wb A B m win V10 lA10 lB10 (((St.only l).sendA win).inB m ((St.only l).outA win)) := by
              have e := only_sent l m win
              exact e ▸ h10
            have hok := HI3.out.okA
            have HI10 := hid (HI9.out.inB (p := (St.only l).outA win) hok)
            have H10 := hid h10
            have hgB : (((St.only l).sendA win).inB m ((St.only l).outA win)).gB.length ≤ 100000 := by show (0 : Nat) ≤ 100000; omega
            clear h10 H9 hok
            go_wp2_with fail
            refine (act7 H10.out hgB 7 (by omega) (by omega) (by decide) ⟨#[]⟩ 0 (by omega) (by omega)).mono ?_
            rintro e w11 ⟨⟨v11, rfl⟩, T11, V11, lA11, lB11, h11⟩
            have hi11 := HI10.out.takeB
            obtain ⟨k1, k2, k3⟩ := only_end l m win hm12.1 hw8.1
            obtain ⟨q1, q2, q3, q4, q5⟩ := takeB_facts (((St.only l).sendA win).inB m ((St.only l).outA win))
            have hs11 : Small 100000 (((St.only l).sendA win).inB m ((St.only l).outA win)).takeB := ⟨by rw [k1]; omega, by rw [q1.pB]; show (0 : Nat) ≤ 100000; omega, by rw [q4]; show (0 : Nat) ≤ 100000; omega, by rw [q5]; show (1 : Nat) ≤ 100000; omega⟩
            generalize (((St.only l).sendA win).inB m ((St.only l).outA win)).takeB = s11 at *
            obtain ⟨a2, n2, c2, h2⟩ := h11.gB.form'
            obtain ⟨a3, n3, c3, h3⟩ := h11.pA.form'
            have s2 := h11.gB.sl
            have s3 := h11.pA.sl
            obtain ⟨f1, f2, f3, _, _, f6, _, _⟩ := h11.cells
            rw [h3] at f3 s3
            rw [h2] at f6 s2
            obtain ⟨rfl, _, _⟩ := s2.len
            obtain ⟨rfl, _, _⟩ := s3.len
            rw [k1] at f3
            have Q1 := hid (fun k => right_any (h11.still (Kept.drewN [] _ k) 0) hi11 hs11)
            have HK := hid h11.k
            have K2 := hid k2
            have K3 := hid k3
            clear h2 h3 s2 s3 hi11 hs11 h11 q1 q2 q3 q4 q5 k1 k2 k3 H10 HI10
            by_cases hz0 : l.length = 0
            · rw [K2.out hz0] at f6
              rw [hz0] at f3
              go_wp2
              go_quiet ((go_at_call 13; exact Calls.quiet_of (Q1.out _)))
              go_wp2
              go_ret
              exact ⟨rfl, HK.out.drewN' _⟩
            · rw [K3.out hz0] at f6
              have hzb : ((l.length : Int) == 0) = false := beq_eq_false_iff_ne.2 (by omega)
              have hzb2 : (l.length == 0) = false := beq_eq_false_iff_ne.2 hz0
              go_wp2
              go_quiet ((go_at_call 13; exact Calls.quiet_of (Q1.out _)))
              go_wp2
              go_ret
              exact ⟨rfl, HK.out.drewN' _⟩
end Go.Proofs.Ytagemhmjpfldoaa.LinkEpochs
