/- LinkAgain, walked: a packet that comes once more changes nothing -/
import Derived.Test.YtagemhmjpfldoaaLinkActAll
import Derived.Test.YtagemhmjpfldoaaLinkRight
import Derived.Test.YtagemhmjpfldoaaArgs
namespace Go.Proofs.Ytagemhmjpfldoaa.LinkAgain
open Go.RowKit
set_option linter.unusedVariables false
set_option linter.unusedSimpArgs false

set_option maxRecDepth 100000 in
set_option maxHeartbeats 8000000 in
theorem walk (w : World) (p : Int) (hp : 0 ≤ p ∧ p ≤ 255) (q : Int) (hq : 0 ≤ q ∧ q ≤ 255) (a : Option Addr) (n cap : Nat) (xs : List (Value × Value × Value)) (hs : Sl3 w (.slice a n cap) xs) (ho : ∀ x ∈ xs, IsInt .u8 x.1 ∧ IsStr x.2.1 ∧ IsInt .i64 x.2.2) :
    Calls Try.prog 7 #[.int .u8 p, .int .u8 q, .slice a n cap] w fun e w' => e = .returned (.bool true) ∧ Kept [] w w' := by
  obtain ⟨hn, hcap, hmax⟩ := hs.len
  subst hn
  unfold maxLen at hmax
  obtain ⟨m, hm⟩ : ∃ m : Nat, (m : Int) = 1 + p % 12 := ⟨(1 + p % 12).toNat, by omega⟩
  obtain ⟨win, hwin⟩ : ∃ win : Nat, (win : Int) = 1 + q % 8 := ⟨(1 + q % 8).toNat, by omega⟩
  have hm12 : 1 ≤ m ∧ m ≤ 12 := by omega
  have hw8 : 1 ≤ win ∧ win ≤ 8 := by omega
  have HM := hid hm
  have HW := hid hwin
  clear hm hwin
  go_enter Try.func7, Try.ntmps7
  go_wp2_with fail
  refine (awake_any w).mono ?_
  rintro e w1 ⟨rfl, hK1⟩
  go_wp2_with fail
  refine (begin_any p q hp hq m win HM.out HW.out w1).mono ?_
  rintro e w2 ⟨wb, A, B, rfl, hA1, hA2, hB1, hB2, hb2, hLA, hLB, hK2, hwb, hfA, hfB, hAB, hwA, hwB⟩
  obtain ⟨T0, h0⟩ := Wo.of_begin hA1 hA2 hB1 hB2 hb2 hLA hLB hK1 hK2 hwb hfA hfB hAB hwA hwB (by omega : win ≤ 32)
  have H0 := hid h0
  clear hA1 hA2 hB1 hB2 hb2 hLA hLB hK1 hK2 hwb hfA hfB hAB hwA hwB h0
  go_wp2_with fail
  go_loopw [8] (fun iv wr => ∃ i : Nat, i ≤ xs.length ∧ i ≤ 100 ∧ iv = .int .i64 (i : Int) ∧ ∃ T V lA lB s, Wo w T wr wb A B m win V lA lB s ∧ Inv m win s ∧ Small i s) (fun iv _ => xs.length - (intOf iv).toNat)
  case atStart => exact ⟨0, by omega, by omega, rfl, T0, _, _, _, _, H0.out, Inv.zero m win, ⟨by simp [St.zero], by simp [St.zero], by simp [St.zero], by simp [St.zero]⟩⟩
  case round =>
    clear H0
    obtain ⟨i, hi, hil, rfl, T, V, lA, lB, s, hWo, hinv, hsm⟩ := hrel
    by_cases hlt : i < xs.length ∧ i < 100
    · obtain ⟨hlt, hlt2⟩ := hlt
      have hlt3 : (i : Int) < 100 := by omega
      obtain ⟨g, off, rfl, c1, c2, c3⟩ := (hs.old hWo.k (by simp)).cell hlt
      obtain ⟨⟨k, hk, hkw⟩, ⟨x, hx⟩, ⟨z, hz, hzw⟩⟩ := ho _ (List.getElem_mem hlt)
      rw [hk] at c1
      rw [hx] at c2
      rw [hz] at c3
      have hkb := bounds_u8 hkw
      have hzb := bounds_i64 hzw
      have HWo := hid hWo
      have HI := hid hinv
      have HS := hid hsm
      have hsm' : Small 100000 s := ⟨by have := hsm.pA; omega, by have := hsm.pB; omega, by have := hsm.tA; omega, by have := hsm.tB; omega⟩
      have HS' := hid hsm'
      obtain ⟨hkb1, hkb2⟩ := hkb
      obtain ⟨hzb1, hzb2⟩ := hzb
      clear hWo hinv hsm hsm' hk hx hz hkw hzw
      go_wp2_with fail
      refine (act_any HWo.out HI.out HS'.out k hkb1 hkb2 x z hzb1 hzb2).mono ?_
      rintro e w3 ⟨⟨vv, rfl⟩, T3, V3, lA3, lB3, hWo3⟩
      have hinv3 := HI.out.step k (.string x) (.int .i64 z) z
      have hsm3 := HS.out.step (m := m) (win := win) k (.string x) (.int .i64 z) z
      generalize s.step m win k (.string x) (.int .i64 z) z = s3 at *
      have hsm4 : Small 100000 s3 := ⟨by have := hsm3.pA; omega, by have := hsm3.pB; omega, by have := hsm3.tA; omega, by have := hsm3.tB; omega⟩
      have H3 := hid hWo3
      have HI3 := hid hinv3
      have HS3 := hid hsm3
      have HS4 := hid hsm4
      clear HWo HI HS HS' hWo3 hinv3 hsm3 hsm4 c1 c2 c3
      have ca3 := H3.out.cells.1
      go_wp2_with fail
      refine (LSt.out_any H3.out.a).mono ?_
      rintro e w4 ⟨v, rfl, hO, hK4⟩
      obtain ⟨va, vn, vc, rfl⟩ := hO.form'
      have hlt3 := H3.out.b.lt
      have hal := kept_new (w := w4) (.cells #[.int .u64 A.N, .int .i64 A.P, .int .u64 (s3.ackA : Int), .slice va vn vc, .int .u64 (s3.nxA : Int)] 45)
      have h4 := (H3.out.still hK4 0).still hal 0
      have hlt4 := h4.b.lt
      have hlt34 := (H3.out.still hK4 0).b.lt
      have cb4 := h4.cells.2.1
      have HO4 := hid (hO.kept hal (not_in_nil _))
      have HNB := hid (hO.out B.all hlt3)
      have HN4 := hid (fun hm => by have := hlt34 _ hm; omega : w4.heap.size ∉ B.all)
      have hok := HI3.out.okA
      have h1a := HI3.out.ab.an
      have h1n := HI3.out.ab.np
      have h2a := HI3.out.ba.an
      have h2n := HI3.out.ba.np
      have h2w := HI3.out.ba.nw
      have h2l := HI3.out.ba.ll
      have hpA := HS4.out.pA
      have hpB := HS4.out.pB
      have HEE := hid (⟨H3.out.eA.1.trans H3.out.eB.1.symm, H3.out.eA.2.trans H3.out.eB.2.symm⟩ : A.N = B.N ∧ A.P = B.P)
      have HOS := hid (fun x hx => H3.out.a.os x (List.mem_of_mem_take hx) : ∀ x ∈ s3.loA.take win, ∃ z : ByteArray, x = .string z)
      have H4 := hid h4
      have HOK := hid hok
      clear hO hK4 hal h4 hlt3 hlt4 hlt34 H3
      go_wp2
      go_region_with (go_at_call 14; refine (LIn.in_at (by exact H4.out.b.sim ⟨rfl, rfl, rfl, rfl⟩) A.N A.P HEE.out.1 HEE.out.2 s3.ackA s3.nxA (by omega) (by omega) (by omega) (by omega) va vn vc (s3.loA.take win) (by exact (HO4.out.kept (S := []) (Kept.drewN [] _ 1) (not_in_nil _)).sl) HOS.out (by exact fun _ => HNB.out)).mono ?_; rintro e w5 ⟨k1, hk1, rfl, hL5, hK5⟩; obtain rfl : k1 = kin m s3.ackA s3.nxB (s3.loA.take win) s3.liB := hk1; have HL5 := hid hL5; have HK5 := hid (hK5.as ⟨rfl, rfl, rfl, rfl⟩ : Kept B.all (w4.alloc (.cells #[.int .u64 A.N, .int .i64 A.P, .int .u64 (s3.ackA : Int), .slice va vn vc, .int .u64 (s3.nxA : Int)] 45)) w5); clear hL5 hK5)
      all_goals
        have hK5 := HK5.out
        have h5 := H4.out.carry hK5 (fun c => c == 2) rfl (fun k hk => by rw [H4.out.t2 k hk]; rfl) 0 V3 lA3 lB3 (s3.inB m (s3.outA win)) rfl ⟨rfl, rfl, rfl, rfl⟩ HL5.out ⟨rfl, rfl⟩ ⟨rfl, rfl⟩ ⟨rfl, rfl⟩ ⟨rfl, rfl⟩ ⟨rfl, rfl, rfl⟩ ⟨rfl, rfl, rfl⟩ rfl
        have hb5 := hK5.blk (blk_alloc_new w4 _) HN4.out
        have d0 : w5.cell? ⟨w4.heap.size, 0, none⟩ = some (.int .u64 A.N) := by rw [cell_of hb5]; rfl
        have d1 : w5.cell? ⟨w4.heap.size, 0 + 1, none⟩ = some (.int .i64 A.P) := by rw [cell_of hb5]; rfl
        have d2 : w5.cell? ⟨w4.heap.size, 0 + 2, none⟩ = some (.int .u64 (s3.ackA : Int)) := by rw [cell_of hb5]; rfl
        have d3 : w5.cell? ⟨w4.heap.size, 0 + 3, none⟩ = some (.slice va vn vc) := by rw [cell_of hb5]; rfl
        have d4 : w5.cell? ⟨w4.heap.size, 0 + 4, none⟩ = some (.int .u64 (s3.nxA : Int)) := by rw [cell_of hb5]; rfl
        have HO5 := hid (HO4.out.kept hK5 HNB.out)
        have cb5 := h5.cells.2.1
        have H5 := hid h5
        have HI5 := hid (HI3.out.inB HOK.out)
        have HKZ := hid (kin_again (m := m) (items := s3.loA.take win) (li := s3.liB) (by omega : s3.ackA ≤ s3.nxB))
        have hkn : kin m s3.ackA s3.nxB (s3.loA.take win) s3.liB ≤ (s3.loA.take win).length := by unfold kin; omega
        have hlw : (s3.loA.take win).length ≤ 100000 := by have := HOK.out.w; simp only [St.outA] at this; omega
        obtain ⟨kk, hKK⟩ : ∃ kk, kk = kin m s3.ackA s3.nxB (s3.loA.take win) s3.liB := ⟨_, rfl⟩
        have hkk0 : ¬ (kk : Int) < 0 := by omega
        have hkk1 : kk ≤ 100000 := by omega
        have hgot : (s3.inB m (s3.outA win)).nxB = s3.nxB + kk := by rw [hKK]; rfl
        have hgotm : s3.nxB + kk ≤ 4611686018427387904 := by omega
        have hack5 : s3.nxA ≤ (s3.inB m (s3.outA win)).ackB + min (s3.inB m (s3.outA win)).loB.length win := by
          simp only [St.inB, St.outA, List.length_drop]; omega
        have hack6 : (s3.inB m (s3.outA win)).ackB ≤ 4611686018427387904 := by simp only [St.inB, St.outA]; omega
        have HGOT := hid hgot
        rw [← hKK]
        have HKK := hid hKK
        clear hK5 hb5 h5 cb4 hkn hlw hKK hgot HL5 HK5 HO4 H4
        go_wp2_with fail
        refine (LIn.got_any H5.out.b).mono ?_
        rintro e w6 ⟨rfl, hw6⟩
        subst hw6
        go_wp2_with fail
        refine (LIn.acked_any H5.out.b).mono ?_
        rintro e w6 ⟨rfl, hw6⟩
        subst hw6
        go_wp2
        go_region_with (go_at_call 14; refine (LIn.in_at (by exact H5.out.b.sim ⟨rfl, rfl, rfl, rfl⟩) A.N A.P HEE.out.1 HEE.out.2 s3.ackA s3.nxA hack5 hack6 (by rw [HGOT.out]; exact hgotm) (by rw [HGOT.out]; omega) va vn vc (s3.loA.take win) (by exact (HO5.out.kept (S := []) (Kept.drewN [] _ 1) (not_in_nil _)).sl) HOS.out (by exact fun _ => HNB.out)).mono ?_; rintro e w7 ⟨k2, hk2, rfl, hL7, hK7⟩; obtain rfl : k2 = 0 := hk2.trans HKZ.out; have HL7 := hid hL7; have HK7 := hid (hK7.as ⟨rfl, rfl, rfl, rfl⟩ : Kept B.all w5 w7); clear hL7 hK7 hk2)
        all_goals
          have h7 := H5.out.carry HK7.out (fun c => c == 2) rfl (fun k hk => by rw [H5.out.t2 k hk]; rfl) 0 V3 lA3 lB3 { s3.inB m (s3.outA win) with ackB := max (s3.inB m (s3.outA win)).ackB (s3.outA win).ack, loB := (s3.inB m (s3.outA win)).loB.drop ((s3.outA win).ack - (s3.inB m (s3.outA win)).ackB), nxB := (s3.inB m (s3.outA win)).nxB + 0, liB := (s3.inB m (s3.outA win)).liB ++ ((s3.outA win).items.drop ((s3.inB m (s3.outA win)).nxB - (s3.outA win).base)).take 0 } rfl ⟨rfl, rfl, rfl, rfl⟩ HL7.out ⟨rfl, rfl⟩ ⟨rfl, rfl⟩ ⟨rfl, rfl⟩ ⟨rfl, rfl⟩ ⟨rfl, rfl, rfl⟩ ⟨rfl, rfl, rfl⟩ rfl
          have hi7 := HI5.out.inB (p := s3.outA win) HOK.out
          rw [St.inB_zero (s3.inB m (s3.outA win)) m (s3.outA win) HKZ.out] at hi7
          have ha7 : max (s3.inB m (s3.outA win)).ackB (s3.outA win).ack = (s3.inB m (s3.outA win)).ackB := by
            show max (max _ _) _ = max _ _
            omega
          have cb7 := h7.cells.2.1
          have H7 := hid h7
          have HI7 := hid hi7
          have HA7 := hid ha7
          have HGT7 := hid (fun W (hW : W = w7) => by subst hW; exact (LIn.got_any h7.b) : ∀ W, W = w7 → Calls Try.prog 21 #[.pointer (some ⟨B.k, 0, none⟩)] W fun e w' => e = .returned (.int .u64 (((s3.inB m (s3.outA win)).nxB : Nat) : Int)) ∧ W = w')
          have HAC7 := hid (fun W (hW : W = w7) => by subst hW; have := LIn.acked_any h7.b; rw [show (_ : St).ackB = max (s3.inB m (s3.outA win)).ackB (s3.outA win).ack from rfl, ha7] at this; exact this : ∀ W, W = w7 → Calls Try.prog 22 #[.pointer (some ⟨B.k, 0, none⟩)] W fun e w' => e = .returned (.int .u64 (((s3.inB m (s3.outA win)).ackB : Nat) : Int)) ∧ W = w')
          clear h7 hi7 ha7 HL7 HK7 H5 HKZ cb5 d0 d1 d2 d3 d4
          go_wp2_with fail
          refine (HGT7.out w7 rfl).mono ?_
          rintro e w8 ⟨rfl, hw8⟩
          subst hw8
          go_wp2_with fail
          refine (HAC7.out w7 rfl).mono ?_
          rintro e w8 ⟨rfl, hw8⟩
          subst hw8
          go_wp2_with fail
          go_roundw
          case rel => exact ⟨i + 1, by omega, by omega, by go_num, _, V3, lA3, lB3, _, H7.out, HI7.out, ⟨HS3.out.pA, HS3.out.pB, HS3.out.tA, HS3.out.tB⟩⟩
          case measure => simp [intOf]; omega
    · have hex : i = xs.length ∨ (i < xs.length ∧ i = 100) := by omega
      have H3 := hid hWo
      have HI3 := hid hinv
      have HS3 := hid hsm
      have hsm4 : Small 100000 s := ⟨by have := hsm.pA; omega, by have := hsm.pB; omega, by have := hsm.tA; omega, by have := hsm.tB; omega⟩
      have HS4 := hid hsm4
      clear hWo hinv hsm hsm4 hlt
      rcases hex with rfl | ⟨hex, rfl⟩
      · go_wp2_with fail
        refine (right_any H3.out HI3.out HS4.out).mono ?_
        rintro e w4 ⟨rfl, kd, rfl⟩
        go_wp2
        go_ret
        exact ⟨rfl, H3.out.k.trans (Kept.drewN [] _ kd)⟩
      · go_wp2_with fail
        refine (right_any H3.out HI3.out HS4.out).mono ?_
        rintro e w4 ⟨rfl, kd, rfl⟩
        go_wp2
        go_ret
        exact ⟨rfl, H3.out.k.trans (Kept.drewN [] _ kd)⟩
end Go.Proofs.Ytagemhmjpfldoaa.LinkAgain
