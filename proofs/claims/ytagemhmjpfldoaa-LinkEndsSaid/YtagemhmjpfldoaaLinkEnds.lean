/- LinkEnds, walked: if packets go to and fro, all that was put is taken -/
import Derived.Test.YtagemhmjpfldoaaLinkActAll
import Derived.Test.YtagemhmjpfldoaaLinkRight
import Derived.Test.YtagemhmjpfldoaaArgs
import Derived.Test.YtagemhmjpfldoaaLinkRounds
import Derived.Deep.CutRange
import Derived.Deep.CutBlock
namespace Go.Proofs.Ytagemhmjpfldoaa.LinkEnds
open Go.RowKit
set_option linter.unusedVariables false
set_option linter.unusedSimpArgs false

set_option maxRecDepth 100000 in
set_option maxHeartbeats 8000000 in
theorem walk (w : World) (p : Int) (hp : 0 ≤ p ∧ p ≤ 255) (q : Int) (hq : 0 ≤ q ∧ q ≤ 255) (a : Option Addr) (n cap : Nat) (xs : List (Value × Value × Value)) (hs : Sl3 w (.slice a n cap) xs) (ho : ∀ x ∈ xs, IsInt .u8 x.1 ∧ IsStr x.2.1 ∧ IsInt .i64 x.2.2) :
    Calls Try.prog 4 #[.int .u8 p, .int .u8 q, .slice a n cap] w fun e w' => e = .returned (.bool true) ∧ Kept [] w w' := by
  obtain ⟨hn, hcap, hmax⟩ := hs.len
  subst hn
  unfold maxLen at hmax
  obtain ⟨m, hm⟩ : ∃ m : Nat, (m : Int) = 1 + p % 12 := ⟨(1 + p % 12).toNat, by omega⟩
  obtain ⟨win, hwin⟩ : ∃ win : Nat, (win : Int) = 1 + q % 8 := ⟨(1 + q % 8).toNat, by omega⟩
  have hm12 : 1 ≤ m ∧ m ≤ 12 := by omega
  have hw8 : 1 ≤ win ∧ win ≤ 8 := by omega
  have HM := hid hm
  have HW := hid hwin
  clear hm hwin
  go_enter Try.func4, Try.ntmps4
  go_wp2_with fail
  refine (awake_any w).mono ?_
  rintro e w1 ⟨rfl, hK1⟩
  go_wp2_with fail
  refine (begin_any p q hp hq m win HM.out HW.out w1).mono ?_
  rintro e w2 ⟨wb, A, B, rfl, hA1, hA2, hB1, hB2, hb2, hLA, hLB, hK2, hwb, hfA, hfB, hAB, hwA, hwB⟩
  obtain ⟨T0, h0⟩ := Wo.of_begin hA1 hA2 hB1 hB2 hb2 hLA hLB hK1 hK2 hwb hfA hfB hAB hwA hwB (by omega : win ≤ 32)
  have H0 := hid h0
  clear hA1 hA2 hB1 hB2 hb2 hLA hLB hK1 hK2 hwb hfA hfB hAB hwA hwB h0
  go_wp2_with fail
  go_loopw [8] (fun iv wr => ∃ i : Nat, i ≤ xs.length ∧ i ≤ 150 ∧ iv = .int .i64 (i : Int) ∧ ∃ T V lA lB s, Wo w T wr wb A B m win V lA lB s ∧ Inv m win s ∧ Small i s) (fun iv _ => xs.length - (intOf iv).toNat)
  case atStart => exact ⟨0, by omega, by omega, rfl, T0, _, _, _, _, H0.out, Inv.zero m win, ⟨by simp [St.zero], by simp [St.zero], by simp [St.zero], by simp [St.zero]⟩⟩
  case round =>
    clear H0
    obtain ⟨i, hi, hil, rfl, T, V, lA, lB, s, hWo, hinv, hsm⟩ := hrel
    go_upto_region 7 with fail
    go_cut [25] from 18 to 25 (fun c wx => c = .bool (decide (i < xs.length ∧ i < 150)) ∧ wx = wr)
    case first =>
      by_cases h1 : i < xs.length
      · by_cases h2 : i < 150
        · have h2i : (i : Int) < 150 := by omega
          go_wp2
          go_meet
          exact ⟨by simp [h1, h2], rfl⟩
        · have h2i : ¬ (i : Int) < 150 := by omega
          go_wp2
          go_meet
          exact ⟨by simp [h2], rfl⟩
      · go_wp2
        go_meet
        exact ⟨by simp [h1], rfl⟩
    case rest =>
    obtain ⟨hc1, hc2⟩ := hcut
    have hc2 := hc2.symm
    subst hc2
    by_cases hlt : i < xs.length ∧ i < 150
    · obtain ⟨hlt, hlt2⟩ := hlt
      rw [decide_eq_true (⟨hlt, hlt2⟩ : i < xs.length ∧ i < 150)] at hc1
      subst hc1
      have hlt3 : (i : Int) < 150 := by omega
      obtain ⟨g, off, rfl, c1, c2, c3⟩ := (hs.old hWo.k (by simp)).cell hlt
      obtain ⟨⟨k, hk, hkw⟩, ⟨x, hx⟩, ⟨z, hz, hzw⟩⟩ := ho _ (List.getElem_mem hlt)
      rw [hk] at c1
      rw [hx] at c2
      rw [hz] at c3
      have hkb := bounds_u8 hkw
      have hzb := bounds_i64 hzw
      have HWo := hid hWo
      have HI := hid hinv
      have HS := hid hsm
      have hsm' : Small 100000 s := ⟨by have := hsm.pA; omega, by have := hsm.pB; omega, by have := hsm.tA; omega, by have := hsm.tB; omega⟩
      have HS' := hid hsm'
      obtain ⟨hkb1, hkb2⟩ := hkb
      obtain ⟨hzb1, hzb2⟩ := hzb
      clear hWo hinv hsm hsm' hk hx hz hkw hzw
      go_wp2_with fail
      refine (act_any HWo.out HI.out HS'.out k hkb1 hkb2 x z hzb1 hzb2).mono ?_
      rintro e w3 ⟨⟨vv, rfl⟩, T3, V3, lA3, lB3, hWo3⟩
      have hinv3 := HI.out.step k (.string x) (.int .i64 z) z
      have hsm3 := HS.out.step (m := m) (win := win) k (.string x) (.int .i64 z) z
      generalize s.step m win k (.string x) (.int .i64 z) z = s3 at *
      have hsm4 : Small 100000 s3 := ⟨by have := hsm3.pA; omega, by have := hsm3.pB; omega, by have := hsm3.tA; omega, by have := hsm3.tB; omega⟩
      have H3 := hid hWo3
      have HI3 := hid hinv3
      have HS3 := hid hsm3
      have HS4 := hid hsm4
      clear HWo HI HS HS' hWo3 hinv3 hsm3 hsm4 c1 c2 c3
      go_wp2_with fail
      go_roundw
      case rel => exact ⟨i + 1, by omega, by omega, by go_num, _, V3, lA3, lB3, s3, H3.out, HI3.out, HS3.out⟩
      case measure => simp [intOf]; omega
    · rw [decide_eq_false hlt] at hc1
      subst hc1
      obtain ⟨LA, hLA⟩ : ∃ LA, s.pA.length = LA := ⟨_, rfl⟩
      obtain ⟨LB, hLB⟩ : ∃ LB, s.pB.length = LB := ⟨_, rfl⟩
      have hLA1 : LA ≤ 150 := by have := hsm.pA; omega
      have hLB1 : LB ≤ 150 := by have := hsm.pB; omega
      have hst : ∃ T V lA lB s, Wo w T wr wb A B m win V lA lB s ∧ Inv m win s ∧ Small 150 s ∧ Rnd LA LB 0 s := ⟨T, V, lA, lB, s, hWo, hinv, ⟨by have := hsm.pA; omega, by have := hsm.pB; omega, by have := hsm.tA; omega, by have := hsm.tB; omega⟩, ⟨hLA, hLB, by omega, by omega, by omega, by omega⟩⟩
      have HST := hid hst
      clear hWo hinv hsm hst hLA hLB
      clear T V lA lB s
      go_wp2_with fail
      go_loopw [9, 10] (fun iv jv wr => (∃ r : Nat, r ≤ 2 * (LA + LB) + 2 ∧ iv = .int .i64 (r : Int) ∧ ∃ T V lA lB s, Wo w T wr wb A B m win V lA lB s ∧ Inv m win s ∧ Small 150 s ∧ Rnd LA LB r s)) (fun iv _ _ => 2 * (LA + LB) + 2 - (intOf iv).toNat)
      case atStart => exact ⟨0, by omega, rfl, HST.out⟩
      case round =>
        clear HST
        obtain ⟨r, hr, rfl, T, V, lA, lB, s, hWo, hinv, hsm, hrnd⟩ := hrel
        have hrnd1 := hrnd.pA
        have hrnd2 := hrnd.pB
        have hiA := hinv
        obtain ⟨a1, n1, c1, h1⟩ := hWo.gA.form'
        obtain ⟨a2, n2, c2, h2⟩ := hWo.gB.form'
        obtain ⟨a3, n3, c3, h3⟩ := hWo.pA.form'
        obtain ⟨a4, n4, c4, h4⟩ := hWo.pB.form'
        have s1 := hWo.gA.sl
        have s2 := hWo.gB.sl
        have s3 := hWo.pA.sl
        have s4 := hWo.pB.sl
        obtain ⟨e1, e2, e3, e4, e5, e6, _, _⟩ := hWo.cells
        rw [h3] at e3 s3
        rw [h4] at e4 s4
        rw [h1] at e5 s1
        rw [h2] at e6 s2
        obtain ⟨rfl, _, _⟩ := s1.len
        obtain ⟨rfl, _, _⟩ := s2.len
        obtain ⟨rfl, _, _⟩ := s3.len
        obtain ⟨rfl, _, _⟩ := s4.len
        rw [hrnd1] at e3
        rw [hrnd2] at e4
        have H1 := hid hWo
        have HI1 := hid hinv
        have HS1 := hid hsm
        have HR := hid hrnd
        clear hWo hinv hsm hrnd hiA h1 h2 h3 h4 s1 s2 s3 s4 hrnd1 hrnd2
        by_cases hlt : r < 2 * (LA + LB) + 2
        · have hrI : (r : Int) < 2 * ((LA : Int) + (LB : Int)) + 2 := by omega
          go_wp2
          go_quiet (fail)
          clear e3 e4 e5 e6
          go_wp2
          have hltD1 := hid H1.out.b.lt
          have hok1 := hid HI1.out.okA
          have hpre1 : s.nxA ≤ s.ackB + min s.loB.length win ∧ s.ackB ≤ 4611686018427387904 ∧ s.nxB ≤ 4611686018427387904 ∧ s.ackA ≤ s.nxB := by
            have h1 := HI1.out.ab.an
            have h2 := HI1.out.ab.np
            have h3 := HI1.out.ba.an
            have h4 := HI1.out.ba.np
            have h5 := HI1.out.ab.nw
            have h6 := HI1.out.ba.nw
            have h7 := HI1.out.ab.ll
            have h8 := HI1.out.ba.ll
            have h9 := HS1.out.pA
            have h10 := HS1.out.pB
            refine ⟨by omega, by omega, by omega, by omega⟩
          have HPRE1 := hid hpre1
          have HEE1 := hid (⟨H1.out.eA.1.trans H1.out.eB.1.symm, H1.out.eA.2.trans H1.out.eB.2.symm⟩ : A.N = B.N ∧ A.P = B.P)
          have HOS1 := hid (fun x hx => H1.out.a.os x (List.mem_of_mem_take hx) : ∀ x ∈ s.loA.take win, ∃ z : ByteArray, x = .string z)
          have ca1 := H1.out.cells.1
          have cb1 := H1.out.cells.2.1
          clear hpre1
          go_cut [] from 51 to 60 (fun wx => ∃ T', Wo w T' wx wb A B m win V lA lB (s.inB m (s.outA win)))
          case first =>
            go_region_with (first
              | (go_at_call 15; refine (LSt.out_any (by exact H1.out.a.sim ⟨rfl, rfl, rfl, rfl⟩)).mono ?_; rintro e w41 ⟨v, rfl, hO, hK4⟩; obtain ⟨va1, vn1, vc1, rfl⟩ := hO.form'; have h4 := H1.out.still (hK4.as ⟨rfl, rfl, rfl, rfl⟩ : Kept [] wr w41) 0; have c41 := h4.cells.2.1; have HO41 := hid hO; have HNB1 := hid (hO.out B.all (fun x hx => hltD1.out x hx)); have H41 := hid h4; clear hO hK4 h4)
              | (go_at_call 14; refine (LIn.in_at (by exact H41.out.b.sim ⟨rfl, rfl, rfl, rfl⟩) A.N A.P HEE1.out.1 HEE1.out.2 s.ackA s.nxA HPRE1.out.1 HPRE1.out.2.1 HPRE1.out.2.2.1 HPRE1.out.2.2.2 va1 vn1 vc1 (s.loA.take win) (by exact HO41.out.sl) HOS1.out (by exact fun _ => HNB1.out)).mono ?_; rintro e w51 ⟨k1, hk1, rfl, hL5, hK5⟩; obtain rfl : k1 = kin m s.ackA s.nxB (s.loA.take win) s.liB := hk1; have hK5 := (hK5.as ⟨rfl, rfl, rfl, rfl⟩ : Kept B.all w41 w51); have h5 := H41.out.carry hK5 (fun c => c == 2) rfl (fun k hk => by rw [H41.out.t2 k hk]; rfl) 0 V lA lB (s.inB m (s.outA win)) rfl ⟨rfl, rfl, rfl, rfl⟩ hL5 ⟨rfl, rfl⟩ ⟨rfl, rfl⟩ ⟨rfl, rfl⟩ ⟨rfl, rfl⟩ ⟨rfl, rfl, rfl⟩ ⟨rfl, rfl, rfl⟩ rfl; have H51 := hid h5; clear hL5 hK5 h5 ca1 cb1))
            all_goals
              go_wp2_with fail
              go_meet
              exact ⟨_, H51.out⟩
          case rest =>
            obtain ⟨T51, h51⟩ := hcut
            have H51 := hid h51
            clear h51
            have HI2 := hid (HI1.out.inB hok1.out)
            have HS2 := hid (⟨HS1.out.pA, HS1.out.pB, HS1.out.tA, HS1.out.tB⟩ : Small 150 (s.inB m (s.outA win)))
            clear e1 e2 hltD1 HPRE1 HEE1 HOS1 H1 ca1 cb1
            go_wp2
            have hltD2 := hid H51.out.a.lt
            have hok2 := hid HI2.out.okB
            have hpre2 : (s.inB m (s.outA win)).nxB ≤ (s.inB m (s.outA win)).ackA + min (s.inB m (s.outA win)).loA.length win ∧ (s.inB m (s.outA win)).ackA ≤ 4611686018427387904 ∧ (s.inB m (s.outA win)).nxA ≤ 4611686018427387904 ∧ (s.inB m (s.outA win)).ackB ≤ (s.inB m (s.outA win)).nxA := by
              have h1 := HI2.out.ab.an
              have h2 := HI2.out.ab.np
              have h3 := HI2.out.ba.an
              have h4 := HI2.out.ba.np
              have h5 := HI2.out.ab.nw
              have h6 := HI2.out.ba.nw
              have h7 := HI2.out.ab.ll
              have h8 := HI2.out.ba.ll
              have h9 := HS2.out.pA
              have h10 := HS2.out.pB
              refine ⟨by omega, by omega, by omega, by omega⟩
            have HPRE2 := hid hpre2
            have HEE2 := hid (⟨H51.out.eB.1.trans H51.out.eA.1.symm, H51.out.eB.2.trans H51.out.eA.2.symm⟩ : B.N = A.N ∧ B.P = A.P)
            have HOS2 := hid (fun x hx => H51.out.b.os x (List.mem_of_mem_take hx) : ∀ x ∈ (s.inB m (s.outA win)).loB.take win, ∃ z : Int, x = .int .i64 z)
            have ca2 := H51.out.cells.1
            have cb2 := H51.out.cells.2.1
            clear hpre2
            go_cut [] from 61 to 70 (fun wx => ∃ T', Wo w T' wx wb A B m win V lA lB (s.round m win))
            case first =>
              go_region_with (first
                | (go_at_call 17; refine (LIn.out_any (by exact H51.out.b.sim ⟨rfl, rfl, rfl, rfl⟩)).mono ?_; rintro e w42 ⟨v, rfl, hO, hK4⟩; obtain ⟨va2, vn2, vc2, rfl⟩ := hO.form'; have h4 := H51.out.still (hK4.as ⟨rfl, rfl, rfl, rfl⟩ : Kept [] wc w42) 0; have c42 := h4.cells.1; have HO42 := hid hO; have HNB2 := hid (hO.out A.all (fun x hx => hltD2.out x hx)); have H42 := hid h4; clear hO hK4 h4)
                | (go_at_call 16; refine (LSt.in_at (by exact H42.out.a.sim ⟨rfl, rfl, rfl, rfl⟩) B.N B.P HEE2.out.1 HEE2.out.2 (s.inB m (s.outA win)).ackB (s.inB m (s.outA win)).nxB HPRE2.out.1 HPRE2.out.2.1 HPRE2.out.2.2.1 HPRE2.out.2.2.2 va2 vn2 vc2 ((s.inB m (s.outA win)).loB.take win) (by exact HO42.out.sl) HOS2.out (by exact fun _ => HNB2.out)).mono ?_; rintro e w52 ⟨k1, hk1, rfl, hL5, hK5⟩; obtain rfl : k1 = kin m (s.inB m (s.outA win)).ackB (s.inB m (s.outA win)).nxA ((s.inB m (s.outA win)).loB.take win) (s.inB m (s.outA win)).liA := hk1; have hK5 := (hK5.as ⟨rfl, rfl, rfl, rfl⟩ : Kept A.all w42 w52); have h5 := H42.out.carry hK5 (fun c => c == 1) rfl (fun k hk => by rw [H42.out.t1 k hk]; rfl) 0 V lA lB ((s.inB m (s.outA win)).inA m ((s.inB m (s.outA win)).outB win)) rfl hL5 ⟨rfl, rfl, rfl, rfl⟩ ⟨rfl, rfl⟩ ⟨rfl, rfl⟩ ⟨rfl, rfl⟩ ⟨rfl, rfl⟩ ⟨rfl, rfl, rfl⟩ ⟨rfl, rfl, rfl⟩ rfl; have H52 := hid h5; clear hL5 hK5 h5 ca2 cb2))
              all_goals
                go_wp2_with fail
                go_meet
                exact ⟨_, H52.out⟩
            case rest =>
              obtain ⟨T52, h52⟩ := hcut
              have H52 := hid h52
              clear h52
              have HI3 := hid (show Inv m win (s.round m win) from HI2.out.inA hok2.out)
              have hm1 := HI3.out.ba.mi
              have hm2 := HI3.out.ab.mi
              have hst2 : ∃ T V lA lB s2, Wo w T wc wb A B m win V lA lB s2 ∧ Inv m win s2 ∧ Small 150 s2 ∧ Tak (s.round m win) s2 ∧ s2.liA.length ≤ 12 ∧ s2.liB.length ≤ 12 := ⟨_, V, lA, lB, _, H52.out, HI3.out, ⟨HS1.out.pA, HS1.out.pB, HS1.out.tA, HS1.out.tB⟩, Tak.refl _, by omega, by omega⟩
              have HST2 := hid hst2
              clear hltD2 HPRE2 HEE2 HOS2 H51 H52 HI2 HS2 HI3 hm1 hm2 hst2 hok1 hok2 ca2 cb2
              go_wp2_with fail
              go_loopw [10] (fun jv wr2 => ∃ kk : Nat, kk ≤ 20 ∧ jv = .int .i64 (kk : Int) ∧ ∃ T V lA lB s2, Wo w T wr2 wb A B m win V lA lB s2 ∧ Inv m win s2 ∧ Small 150 s2 ∧ Tak (s.round m win) s2 ∧ s2.liA.length ≤ 12 - kk ∧ s2.liB.length ≤ 12 - kk) (fun jv _ => 20 - (intOf jv).toNat)
              case atStart => exact ⟨0, by omega, rfl, HST2.out⟩
              case round =>
                clear HST2
                obtain ⟨kk, hkk, rfl, T2, V2, lA2, lB2, s2, h2, hi2, hs2, ht2, hl1, hl2⟩ := hrel
                by_cases hkl : kk < 20
                · have hkI : (kk : Int) < 20 := by omega
                  have hgA : s2.gA.length ≤ 100000 := by have := hi2.ba.gn; have := hi2.ba.np; have := hs2.pB; omega
                  have hi6 := hi2.takeA
                  obtain ⟨k1, k2, k3, k4, k5⟩ := takeA_facts s2
                  have hgB : s2.takeA.gB.length ≤ 100000 := by have := hi6.ab.gn; have := hi6.ab.np; rw [k1.pA] at this; have := hs2.pA; omega
                  obtain ⟨q1, q2, q3, q4, q5⟩ := takeB_facts s2.takeA
                  have HI7 := hid hi6.takeB
                  have HT7 := hid ((ht2.trans k1).trans q1)
                  have HS7 := hid (⟨by rw [q1.pA, k1.pA]; exact hs2.pA, by rw [q1.pB, k1.pB]; exact hs2.pB, by rw [q4, k4]; exact hs2.tA, by rw [q5, k5]; exact hs2.tB⟩ : Small 150 s2.takeA.takeB)
                  have HL7 := hid (⟨by rw [q3, k2]; omega, by rw [q2, k3]; omega⟩ : s2.takeA.takeB.liA.length ≤ 12 - (kk + 1) ∧ s2.takeA.takeB.liB.length ≤ 12 - (kk + 1))
                  have H2 := hid h2
                  clear h2 hi2 hs2 ht2 hl1 hl2 hi6 k1 k2 k3 k4 k5 q1 q2 q3 q4 q5
                  go_wp2_with fail
                  refine (act6 H2.out hgA 6 (by omega) (by omega) (by decide) ⟨#[]⟩ 0 (by omega) (by omega)).mono ?_
                  rintro e w6 ⟨⟨v6, rfl⟩, T6, V6, lA6, lB6, h6⟩
                  have H6 := hid h6
                  clear h6
                  go_wp2_with fail
                  refine (act7 H6.out hgB 7 (by omega) (by omega) (by decide) ⟨#[]⟩ 0 (by omega) (by omega)).mono ?_
                  rintro e w7 ⟨⟨v7, rfl⟩, T7, V7, lA7, lB7, h7⟩
                  have H7 := hid h7
                  clear h7
                  go_wp2_with fail
                  go_roundw
                  case rel => exact ⟨kk + 1, by omega, by go_num, T7, V7, lA7, lB7, _, H7.out, HI7.out, HS7.out, HT7.out, HL7.out.1, HL7.out.2⟩
                  case measure => simp [intOf]; omega
                · obtain rfl : kk = 20 := by omega
                  have ea : s2.liA = [] := List.eq_nil_of_length_eq_zero (by omega)
                  have eb : s2.liB = [] := List.eq_nil_of_length_eq_zero (by omega)
                  have HR2 := hid (HR.out.next HI1.out hw8.1 hi2 ht2 ea eb)
                  have H2 := hid h2
                  have HI2 := hid hi2
                  have HS2 := hid hs2
                  clear h2 hi2 hs2 ht2 hl1 hl2 ea eb
                  go_wp2_with fail
                  go_roundw
                  case rel => exact ⟨r + 1, by omega, by go_num, T2, V2, lA2, lB2, s2, H2.out, HI2.out, HS2.out, HR2.out⟩
                  case measure => simp [intOf]; omega
        · have hre : r = 2 * (LA + LB) + 2 := by omega
          subst hre
          obtain ⟨g1, g2, g3, g4⟩ := HR.out.done HI1.out
          have hA := HR.out.pA
          have hB := HR.out.pB
          rw [g1, hB] at e5
          rw [g2, hA] at e6
          have Q1 := hid (fun k => right_any (H1.out.still (Kept.drewN [] _ k) 0) HI1.out (⟨by have := HS1.out.pA; omega, by have := HS1.out.pB; omega, by have := HS1.out.tA; omega, by have := HS1.out.tB; omega⟩ : Small 100000 s))
          have Q2 := hid (fun k => (LSt.idle_any (H1.out.a.still (Kept.drewN [] _ k))).mono (fun e w' h => by rw [g3] at h; exact ⟨h.1, h.2.symm⟩) : ∀ k, Calls Try.prog 18 #[.pointer (some ⟨A.k, 0, none⟩)] (wr.drewN k) fun e w' => e = .returned (.bool true) ∧ w' = wr.drewN k)
          have Q3 := hid (fun k => (LIn.idle_any (H1.out.b.still (Kept.drewN [] _ k))).mono (fun e w' h => by rw [g4] at h; exact ⟨h.1, h.2.symm⟩) : ∀ k, Calls Try.prog 19 #[.pointer (some ⟨B.k, 0, none⟩)] (wr.drewN k) fun e w' => e = .returned (.bool true) ∧ w' = wr.drewN k)
          have HK := hid H1.out.k
          have hnlt : ¬ (((2 * (LA + LB) + 2 : Nat) : Int)) < 2 * ((LA : Int) + (LB : Int)) + 2 := by omega
          clear H1 HI1 HS1 HR g1 g2 g3 g4 hA hB hlt
          go_wp2
          go_quiet (fail)
          go_wp2
          go_quiet (first
            | (go_at_call 13; exact Calls.quiet_at (Q1.out _))
            | (go_at_call 18; exact Calls.quiet_at_same (Q2.out _))
            | (go_at_call 19; exact Calls.quiet_at_same (Q3.out _)))
          go_wp2
          go_ret
          exact ⟨rfl, (HK.out.drewN' _).drewN' _⟩
end Go.Proofs.Ytagemhmjpfldoaa.LinkEnds
